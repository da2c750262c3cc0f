/-
  A splice that is refused: by the program.
-/
import Derived.Test.YtflpihedhccdfaaGreatDoorProg
import Derived.Test.YtflpihedhccdfaaGreatDoorReg
import Derived.WalkKit
import Derived.WalkSpells
import Derived.WalkLawsBesides
import Derived.Lib.Hide
import Derived.Lib.MinMax
import Derived.Deep.QuietTactic
import Derived.BigQuiet
import Derived.OwnWalk
import Derived.Deep.AppendLies
import Derived.KernelRfl
import Derived.Laws.OwnMore
import Derived.Deep.OwnRows
import Derived.Test.YtflpihedhccdfaaGreatDoorRxA
import Derived.Test.YtflpihedhccdfaaGreatDoorRxI
set_option linter.unusedSimpArgs false
set_option linter.unusedVariables false
namespace Go.Proofs.YtflpihedhccdfaaGreatDoor
open Go Go.RowKit

set_option maxRecDepth 100000 in
set_option maxHeartbeats 4000000 in
theorem Splice_nil (p n : Int) (s : ByteArray) (w : World) :
    Calls Tryz.prog 12 #[.pointer none, .int .i64 p, .int .i64 n, .string s] w fun e w' => e = .returned (.tuple #[.agg #[.int .i64 0, .int .i64 0, .int .i64 0], .int .i64 1]) ∧ Below w.heap.size w w' := by
  go_enter Tryz.func12, Tryz.ntmps12
  go_wp2_with fail
  try simp only [Exit.inBlock, Exit.then]
  exact bodyPost_ret (v := .tuple #[.agg #[.int .i64 0, .int .i64 0, .int .i64 0], .int .i64 1]) (by simp [results, Tryz.results12, go_sem]) rfl ⟨rfl, below_new w _⟩

set_option maxRecDepth 100000 in
set_option maxHeartbeats 8000000 in
/-- Out of range. -/
theorem Splice_range (X : Nat) (t : ByteArray) (q p n : Int) (s : ByteArray) (a d : Addr) (w : World) (h : IsLex w X t q) (ht : t.size ≤ 4000) (hL : Laid5 a d w)
    (hn : -9223372036854775808 ≤ n ∧ n ≤ 9223372036854775807) (hr : p < 0 ∨ p > t.size ∨ n < 0 ∨ n > t.size - p) :
    Calls Tryz.prog 12 #[.pointer (some ⟨X, 0, none⟩), .int .i64 p, .int .i64 n, .string s] w fun e w' => e = .returned (.tuple #[.agg #[.int .i64 0, .int .i64 0, .int .i64 0], .int .i64 10]) ∧ Below w.heap.size w w' := by
  obtain ⟨base, v, ls, h1, h2, h3, h4⟩ := h
  obtain ⟨A, c, rfl, -, hH, -⟩ := holdsL_of_own h2
  have c0 : w.cell? ⟨X, 0, none⟩ = some (.slice A ls.length c) := by simp [World.cell?, h1]
  have hst := startL_size h3
  have hll : ls.length = (piecesB t).length := by rw [← h3, textsOf_len]
  have hpl := pieces_le t
  have lX := cell_lt c0
  have hb1 := below_new w (.cells #[.int .i64 0, .int .i64 0, .int .i64 0] 29)
  have HW := whole_any X A c ls (w.alloc (.cells #[.int .i64 0, .int .i64 0, .int .i64 0] 29)) (by omega) (by omega) ((hb1.cell (p := ⟨X, 0, none⟩) lX).trans c0) (hH.below hb1)
  rw [joinT_is h3] at HW
  have HW := Lib.hid HW
  have HL := Lib.hid (fun W (hb : Below w.heap.size w W) => told_range a d W (hL.below hb))
  have HG := Lib.hid (fun W (hb : Below w.heap.size w W) => (hL.below hb).range)
  have HB1 := Lib.hid hb1
  have hR0 := heap_alloc_new w (.cells #[.int .i64 0, .int .i64 0, .int .i64 0] 29)
  have HR0 := Lib.hid hR0
  clear h1 h2 h3 h4 hH c0 hb1 hR0 hL hst hll hpl
  go_enter Tryz.func12, Tryz.ntmps12
  go_wp2_with fail
  refine HW.out.mono ?_
  rintro e w2 ⟨rfl, hb2⟩
  have hz2 := hb2.size
  simp only [World.size_alloc] at hz2
  have hlow := HB1.out.trans (hb2.mono (by simp))
  have hrow := (hb2.block w.heap.size (by simp)).trans HR0.out
  have cg := HG.out w2 hlow
  have HLw := Lib.hid (HL.out w2 hlow)
  have y0 : w2.cell? ⟨w.heap.size, 0, none⟩ = some (.int .i64 0) := by simp [World.cell?, hrow]
  have y1 : w2.cell? ⟨w.heap.size, 1, none⟩ = some (.int .i64 0) := by simp [World.cell?, hrow]
  have y2 : w2.cell? ⟨w.heap.size, 2, none⟩ = some (.int .i64 0) := by simp [World.cell?, hrow]
  have HRo := Lib.hid hrow
  have Hlow := Lib.hid hlow
  clear hrow hlow hz2 hb2
  have z0 : ∀ j, w2.frozen? ⟨w.heap.size, j, none⟩ = false := fun j => frozen_of_row w2 _ j _ _ HRo.out
  by_cases g1 : p < 0
  · clear hr
    go_wp2_with fail
    refine HLw.out.mono ?_
    rintro e w3 ⟨rfl, rfl⟩
    go_wp2_with fail
    try simp only [Exit.inBlock, Exit.then]
    exact bodyPost_ret (v := .tuple #[.agg #[.int .i64 0, .int .i64 0, .int .i64 0], .int .i64 10]) (by simp [results, Tryz.results12, go_sem, y0, y1, y2]) rfl ⟨rfl, ((Hlow.out.setCell (p := ⟨w.heap.size, 0, none⟩) (Nat.le_refl _) _).setCell (p := ⟨w.heap.size, 1, none⟩) (Nat.le_refl _) _).setCell (p := ⟨w.heap.size, 2, none⟩) (Nat.le_refl _) _⟩
  · by_cases g2 : (t.size : Int) < p
    · clear hr
      go_wp2_with fail
      refine HLw.out.mono ?_
      rintro e w3 ⟨rfl, rfl⟩
      go_wp2_with fail
      try simp only [Exit.inBlock, Exit.then]
      exact bodyPost_ret (v := .tuple #[.agg #[.int .i64 0, .int .i64 0, .int .i64 0], .int .i64 10]) (by simp [results, Tryz.results12, go_sem, y0, y1, y2]) rfl ⟨rfl, ((Hlow.out.setCell (p := ⟨w.heap.size, 0, none⟩) (Nat.le_refl _) _).setCell (p := ⟨w.heap.size, 1, none⟩) (Nat.le_refl _) _).setCell (p := ⟨w.heap.size, 2, none⟩) (Nat.le_refl _) _⟩
    · by_cases g3 : n < 0
      · clear hr
        go_wp2_with fail
        refine HLw.out.mono ?_
        rintro e w3 ⟨rfl, rfl⟩
        go_wp2_with fail
        try simp only [Exit.inBlock, Exit.then]
        exact bodyPost_ret (v := .tuple #[.agg #[.int .i64 0, .int .i64 0, .int .i64 0], .int .i64 10]) (by simp [results, Tryz.results12, go_sem, y0, y1, y2]) rfl ⟨rfl, ((Hlow.out.setCell (p := ⟨w.heap.size, 0, none⟩) (Nat.le_refl _) _).setCell (p := ⟨w.heap.size, 1, none⟩) (Nat.le_refl _) _).setCell (p := ⟨w.heap.size, 2, none⟩) (Nat.le_refl _) _⟩
      · have g4 : (t.size : Int) - p < n := by omega
        clear hr
        go_wp2_with fail
        refine HLw.out.mono ?_
        rintro e w3 ⟨rfl, rfl⟩
        go_wp2_with fail
        try simp only [Exit.inBlock, Exit.then]
        exact bodyPost_ret (v := .tuple #[.agg #[.int .i64 0, .int .i64 0, .int .i64 0], .int .i64 10]) (by simp [results, Tryz.results12, go_sem, y0, y1, y2]) rfl ⟨rfl, ((Hlow.out.setCell (p := ⟨w.heap.size, 0, none⟩) (Nat.le_refl _) _).setCell (p := ⟨w.heap.size, 1, none⟩) (Nat.le_refl _) _).setCell (p := ⟨w.heap.size, 2, none⟩) (Nat.le_refl _) _⟩

set_option maxRecDepth 100000 in
set_option maxHeartbeats 8000000 in
/-- Too long. -/
theorem Splice_full (X : Nat) (t : ByteArray) (q p n : Int) (s : ByteArray) (a d : Addr) (w : World) (h : IsLex w X t q) (ht : t.size ≤ 4000) (hL : Laid5 a d w)
    (hp : 0 ≤ p) (hn : 0 ≤ n) (hpn : p + n ≤ t.size) (hs : s.size ≤ 1000000) (hr : (t.size : Int) - n + s.size > 4000) :
    Calls Tryz.prog 12 #[.pointer (some ⟨X, 0, none⟩), .int .i64 p, .int .i64 n, .string s] w fun e w' => e = .returned (.tuple #[.agg #[.int .i64 0, .int .i64 0, .int .i64 0], .int .i64 11]) ∧ Below w.heap.size w w' := by
  obtain ⟨base, v, ls, h1, h2, h3, h4⟩ := h
  obtain ⟨A, c, rfl, -, hH, -⟩ := holdsL_of_own h2
  have c0 : w.cell? ⟨X, 0, none⟩ = some (.slice A ls.length c) := by simp [World.cell?, h1]
  have hst := startL_size h3
  have hll : ls.length = (piecesB t).length := by rw [← h3, textsOf_len]
  have hpl := pieces_le t
  have lX := cell_lt c0
  have hb1 := below_new w (.cells #[.int .i64 0, .int .i64 0, .int .i64 0] 29)
  have HW := whole_any X A c ls (w.alloc (.cells #[.int .i64 0, .int .i64 0, .int .i64 0] 29)) (by omega) (by omega) ((hb1.cell (p := ⟨X, 0, none⟩) lX).trans c0) (hH.below hb1)
  rw [joinT_is h3] at HW
  have HW := Lib.hid HW
  have HL := Lib.hid (fun W (hb : Below w.heap.size w W) => told_full a d W (hL.below hb))
  have HG := Lib.hid (fun W (hb : Below w.heap.size w W) => (hL.below hb).full)
  have HB1 := Lib.hid hb1
  have hR0 := heap_alloc_new w (.cells #[.int .i64 0, .int .i64 0, .int .i64 0] 29)
  have HR0 := Lib.hid hR0
  clear h1 h2 h3 h4 hH c0 hb1 hR0 hL hst hll hpl
  go_enter Tryz.func12, Tryz.ntmps12
  go_wp2_with fail
  refine HW.out.mono ?_
  rintro e w2 ⟨rfl, hb2⟩
  have hz2 := hb2.size
  simp only [World.size_alloc] at hz2
  have hlow := HB1.out.trans (hb2.mono (by simp))
  have hrow := (hb2.block w.heap.size (by simp)).trans HR0.out
  have cg := HG.out w2 hlow
  have HLw := Lib.hid (HL.out w2 hlow)
  have y0 : w2.cell? ⟨w.heap.size, 0, none⟩ = some (.int .i64 0) := by simp [World.cell?, hrow]
  have y1 : w2.cell? ⟨w.heap.size, 1, none⟩ = some (.int .i64 0) := by simp [World.cell?, hrow]
  have y2 : w2.cell? ⟨w.heap.size, 2, none⟩ = some (.int .i64 0) := by simp [World.cell?, hrow]
  have HRo := Lib.hid hrow
  have Hlow := Lib.hid hlow
  clear hrow hlow hz2 hb2
  have z0 : ∀ j, w2.frozen? ⟨w.heap.size, j, none⟩ = false := fun j => frozen_of_row w2 _ j _ _ HRo.out
  have g1 : ¬ p < 0 := by omega
  have g2 : ¬ (t.size : Int) < p := by omega
  have g3 : ¬ n < 0 := by omega
  have g4 : ¬ (t.size : Int) - p < n := by omega
  have g5 : (4000 : Int) < (t.size : Int) - n + s.size := by omega
  clear hr
  go_wp2_with fail
  refine HLw.out.mono ?_
  rintro e w3 ⟨rfl, rfl⟩
  go_wp2_with fail
  try simp only [Exit.inBlock, Exit.then]
  exact bodyPost_ret (v := .tuple #[.agg #[.int .i64 0, .int .i64 0, .int .i64 0], .int .i64 11]) (by simp [results, Tryz.results12, go_sem, y0, y1, y2]) rfl ⟨rfl, ((Hlow.out.setCell (p := ⟨w.heap.size, 0, none⟩) (Nat.le_refl _) _).setCell (p := ⟨w.heap.size, 1, none⟩) (Nat.le_refl _) _).setCell (p := ⟨w.heap.size, 2, none⟩) (Nat.le_refl _) _⟩
end Go.Proofs.YtflpihedhccdfaaGreatDoor
