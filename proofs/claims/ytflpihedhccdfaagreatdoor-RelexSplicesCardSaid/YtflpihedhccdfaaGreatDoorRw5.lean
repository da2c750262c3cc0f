/-
  A splice that is refused: by the program.
-/
import Derived.Test.YtflpihedhccdfaaGreatDoorProg
import Derived.Test.YtflpihedhccdfaaGreatDoorReg
import Derived.WalkKit
import Derived.WalkSpells
import Derived.WalkLawsBesides
import Derived.Lib.Hide
import Derived.Lib.MinMax
import Derived.Deep.QuietTactic
import Derived.BigQuiet
import Derived.OwnWalk
import Derived.Deep.AppendLies
import Derived.KernelRfl
import Derived.Laws.OwnMore
import Derived.Deep.OwnRows
import Derived.Test.YtflpihedhccdfaaGreatDoorRw1
import Derived.Test.YtflpihedhccdfaaGreatDoorRw4
import Derived.Deep.RegionWith
set_option linter.unusedSimpArgs false
set_option linter.unusedVariables false
namespace Go.Proofs.YtflpihedhccdfaaGreatDoor
open Go Go.RowKit

set_option maxRecDepth 100000 in
set_option maxHeartbeats 4000000 in
theorem Splice_nil (p n : Int) (s : ByteArray) (w : World) :
    Calls Tryz.prog 12 #[.pointer none, .int .i64 p, .int .i64 n, .string s] w fun e w' => e = .returned (.tuple #[.agg #[.int .i64 0, .int .i64 0, .int .i64 0], .int .i64 1]) ∧ Below w.heap.size w w' := by
  go_enter Tryz.func12, Tryz.ntmps12
  go_wp2_with fail
  try simp only [Exit.inBlock, Exit.then]
  exact bodyPost_ret (v := .tuple #[.agg #[.int .i64 0, .int .i64 0, .int .i64 0], .int .i64 1]) (by simp [results, Tryz.results12, go_sem]) rfl ⟨rfl, below_new w _⟩

set_option maxRecDepth 100000 in
set_option maxHeartbeats 8000000 in
/-- Out of range. -/
theorem Splice_range (X : Nat) (t : ByteArray) (q p n : Int) (s : ByteArray) (a d : Addr) (w : World) (h : IsLex w X t q) (ht : t.size ≤ 4000) (hL : Laid5 a d w)
    (hn : -9223372036854775808 ≤ n ∧ n ≤ 9223372036854775807) (hr : p < 0 ∨ p > t.size ∨ n < 0 ∨ n > t.size - p) :
    Calls Tryz.prog 12 #[.pointer (some ⟨X, 0, none⟩), .int .i64 p, .int .i64 n, .string s] w fun e w' => e = .returned (.tuple #[.agg #[.int .i64 0, .int .i64 0, .int .i64 0], .int .i64 10]) ∧ Below w.heap.size w w' := by
  obtain ⟨base, v, ls, h1, h2, h3, h4⟩ := h
  obtain ⟨A, c, rfl, -, hH, -⟩ := holdsL_of_own h2
  have c0 : w.cell? ⟨X, 0, none⟩ = some (.slice A ls.length c) := by simp [World.cell?, h1]
  have hst := startL_size h3
  have hll : ls.length = (piecesB t).length := by rw [← h3, textsOf_len]
  have hpl := pieces_le t
  have lX := cell_lt c0
  have hb1 := below_new w (.cells #[.int .i64 0, .int .i64 0, .int .i64 0] 29)
  have HW := whole_any X A c ls (w.alloc (.cells #[.int .i64 0, .int .i64 0, .int .i64 0] 29)) (by omega) (by omega) ((hb1.cell (p := ⟨X, 0, none⟩) lX).trans c0) (hH.below hb1)
  rw [joinT_is h3] at HW
  have HW := Lib.hid HW
  have HL := Lib.hid (fun W (hb : Below w.heap.size w W) => told_range a d W (hL.below hb))
  have HG := Lib.hid (fun W (hb : Below w.heap.size w W) => (hL.below hb).range)
  have HB1 := Lib.hid hb1
  have hR0 := heap_alloc_new w (.cells #[.int .i64 0, .int .i64 0, .int .i64 0] 29)
  have HR0 := Lib.hid hR0
  clear h1 h2 h3 h4 hH c0 hb1 hR0 hL hst hll hpl
  go_enter Tryz.func12, Tryz.ntmps12
  go_wp2_with fail
  refine HW.out.mono ?_
  rintro e w2 ⟨rfl, hb2⟩
  have hz2 := hb2.size
  simp only [World.size_alloc] at hz2
  have hlow := HB1.out.trans (hb2.mono (by simp))
  have hrow := (hb2.block w.heap.size (by simp)).trans HR0.out
  have cg := HG.out w2 hlow
  have HLw := Lib.hid (HL.out w2 hlow)
  have y0 : w2.cell? ⟨w.heap.size, 0, none⟩ = some (.int .i64 0) := by simp [World.cell?, hrow]
  have y1 : w2.cell? ⟨w.heap.size, 1, none⟩ = some (.int .i64 0) := by simp [World.cell?, hrow]
  have y2 : w2.cell? ⟨w.heap.size, 2, none⟩ = some (.int .i64 0) := by simp [World.cell?, hrow]
  have HRo := Lib.hid hrow
  have Hlow := Lib.hid hlow
  clear hrow hlow hz2 hb2
  have z0 : ∀ j, w2.frozen? ⟨w.heap.size, j, none⟩ = false := fun j => frozen_of_row w2 _ j _ _ HRo.out
  by_cases g1 : p < 0
  · clear hr
    go_wp2_with fail
    refine HLw.out.mono ?_
    rintro e w3 ⟨rfl, rfl⟩
    go_wp2_with fail
    try simp only [Exit.inBlock, Exit.then]
    exact bodyPost_ret (v := .tuple #[.agg #[.int .i64 0, .int .i64 0, .int .i64 0], .int .i64 10]) (by simp [results, Tryz.results12, go_sem, y0, y1, y2]) rfl ⟨rfl, ((Hlow.out.setCell (p := ⟨w.heap.size, 0, none⟩) (Nat.le_refl _) _).setCell (p := ⟨w.heap.size, 1, none⟩) (Nat.le_refl _) _).setCell (p := ⟨w.heap.size, 2, none⟩) (Nat.le_refl _) _⟩
  · by_cases g2 : (t.size : Int) < p
    · clear hr
      go_wp2_with fail
      refine HLw.out.mono ?_
      rintro e w3 ⟨rfl, rfl⟩
      go_wp2_with fail
      try simp only [Exit.inBlock, Exit.then]
      exact bodyPost_ret (v := .tuple #[.agg #[.int .i64 0, .int .i64 0, .int .i64 0], .int .i64 10]) (by simp [results, Tryz.results12, go_sem, y0, y1, y2]) rfl ⟨rfl, ((Hlow.out.setCell (p := ⟨w.heap.size, 0, none⟩) (Nat.le_refl _) _).setCell (p := ⟨w.heap.size, 1, none⟩) (Nat.le_refl _) _).setCell (p := ⟨w.heap.size, 2, none⟩) (Nat.le_refl _) _⟩
    · by_cases g3 : n < 0
      · clear hr
        go_wp2_with fail
        refine HLw.out.mono ?_
        rintro e w3 ⟨rfl, rfl⟩
        go_wp2_with fail
        try simp only [Exit.inBlock, Exit.then]
        exact bodyPost_ret (v := .tuple #[.agg #[.int .i64 0, .int .i64 0, .int .i64 0], .int .i64 10]) (by simp [results, Tryz.results12, go_sem, y0, y1, y2]) rfl ⟨rfl, ((Hlow.out.setCell (p := ⟨w.heap.size, 0, none⟩) (Nat.le_refl _) _).setCell (p := ⟨w.heap.size, 1, none⟩) (Nat.le_refl _) _).setCell (p := ⟨w.heap.size, 2, none⟩) (Nat.le_refl _) _⟩
      · have g4 : (t.size : Int) - p < n := by omega
        clear hr
        go_wp2_with fail
        refine HLw.out.mono ?_
        rintro e w3 ⟨rfl, rfl⟩
        go_wp2_with fail
        try simp only [Exit.inBlock, Exit.then]
        exact bodyPost_ret (v := .tuple #[.agg #[.int .i64 0, .int .i64 0, .int .i64 0], .int .i64 10]) (by simp [results, Tryz.results12, go_sem, y0, y1, y2]) rfl ⟨rfl, ((Hlow.out.setCell (p := ⟨w.heap.size, 0, none⟩) (Nat.le_refl _) _).setCell (p := ⟨w.heap.size, 1, none⟩) (Nat.le_refl _) _).setCell (p := ⟨w.heap.size, 2, none⟩) (Nat.le_refl _) _⟩

set_option maxRecDepth 100000 in
set_option maxHeartbeats 8000000 in
/-- Too long. -/
theorem Splice_full (X : Nat) (t : ByteArray) (q p n : Int) (s : ByteArray) (a d : Addr) (w : World) (h : IsLex w X t q) (ht : t.size ≤ 4000) (hL : Laid5 a d w)
    (hp : 0 ≤ p) (hn : 0 ≤ n) (hpn : p + n ≤ t.size) (hs : s.size ≤ 1000000) (hr : (t.size : Int) - n + s.size > 4000) :
    Calls Tryz.prog 12 #[.pointer (some ⟨X, 0, none⟩), .int .i64 p, .int .i64 n, .string s] w fun e w' => e = .returned (.tuple #[.agg #[.int .i64 0, .int .i64 0, .int .i64 0], .int .i64 11]) ∧ Below w.heap.size w w' := by
  obtain ⟨base, v, ls, h1, h2, h3, h4⟩ := h
  obtain ⟨A, c, rfl, -, hH, -⟩ := holdsL_of_own h2
  have c0 : w.cell? ⟨X, 0, none⟩ = some (.slice A ls.length c) := by simp [World.cell?, h1]
  have hst := startL_size h3
  have hll : ls.length = (piecesB t).length := by rw [← h3, textsOf_len]
  have hpl := pieces_le t
  have lX := cell_lt c0
  have hb1 := below_new w (.cells #[.int .i64 0, .int .i64 0, .int .i64 0] 29)
  have HW := whole_any X A c ls (w.alloc (.cells #[.int .i64 0, .int .i64 0, .int .i64 0] 29)) (by omega) (by omega) ((hb1.cell (p := ⟨X, 0, none⟩) lX).trans c0) (hH.below hb1)
  rw [joinT_is h3] at HW
  have HW := Lib.hid HW
  have HL := Lib.hid (fun W (hb : Below w.heap.size w W) => told_full a d W (hL.below hb))
  have HG := Lib.hid (fun W (hb : Below w.heap.size w W) => (hL.below hb).full)
  have HB1 := Lib.hid hb1
  have hR0 := heap_alloc_new w (.cells #[.int .i64 0, .int .i64 0, .int .i64 0] 29)
  have HR0 := Lib.hid hR0
  clear h1 h2 h3 h4 hH c0 hb1 hR0 hL hst hll hpl
  go_enter Tryz.func12, Tryz.ntmps12
  go_wp2_with fail
  refine HW.out.mono ?_
  rintro e w2 ⟨rfl, hb2⟩
  have hz2 := hb2.size
  simp only [World.size_alloc] at hz2
  have hlow := HB1.out.trans (hb2.mono (by simp))
  have hrow := (hb2.block w.heap.size (by simp)).trans HR0.out
  have cg := HG.out w2 hlow
  have HLw := Lib.hid (HL.out w2 hlow)
  have y0 : w2.cell? ⟨w.heap.size, 0, none⟩ = some (.int .i64 0) := by simp [World.cell?, hrow]
  have y1 : w2.cell? ⟨w.heap.size, 1, none⟩ = some (.int .i64 0) := by simp [World.cell?, hrow]
  have y2 : w2.cell? ⟨w.heap.size, 2, none⟩ = some (.int .i64 0) := by simp [World.cell?, hrow]
  have HRo := Lib.hid hrow
  have Hlow := Lib.hid hlow
  clear hrow hlow hz2 hb2
  have z0 : ∀ j, w2.frozen? ⟨w.heap.size, j, none⟩ = false := fun j => frozen_of_row w2 _ j _ _ HRo.out
  have g1 : ¬ p < 0 := by omega
  have g2 : ¬ (t.size : Int) < p := by omega
  have g3 : ¬ n < 0 := by omega
  have g4 : ¬ (t.size : Int) - p < n := by omega
  have g5 : (4000 : Int) < (t.size : Int) - n + s.size := by omega
  clear hr
  go_wp2_with fail
  refine HLw.out.mono ?_
  rintro e w3 ⟨rfl, rfl⟩
  go_wp2_with fail
  try simp only [Exit.inBlock, Exit.then]
  exact bodyPost_ret (v := .tuple #[.agg #[.int .i64 0, .int .i64 0, .int .i64 0], .int .i64 11]) (by simp [results, Tryz.results12, go_sem, y0, y1, y2]) rfl ⟨rfl, ((Hlow.out.setCell (p := ⟨w.heap.size, 0, none⟩) (Nat.le_refl _) _).setCell (p := ⟨w.heap.size, 1, none⟩) (Nat.le_refl _) _).setCell (p := ⟨w.heap.size, 2, none⟩) (Nat.le_refl _) _⟩
end Go.Proofs.YtflpihedhccdfaaGreatDoor
/-
  The line that the program finds is the document's, plainly.
-/
namespace Go.Proofs.YtflpihedhccdfaaGreatDoor
open Go.RowKit

theorem find_from (p : Nat) (l : List Ln) : ∀ (m k : Nat), k + m = l.length → findL p k (findUp p l k).1 (findUp p l k).2 (stL (startL l k) (listsOf (textsOf (l.drop k)))) = findUp p l l.length
  | 0, k, h => by
    obtain rfl : k = l.length := by omega
    rw [List.drop_length]
    rfl
  | m + 1, k, h => by
    have hk : k < l.length := by omega
    have ih := find_from p l m (k + 1) (by omega)
    have hs := startL_succ (List.getElem?_eq_getElem hk)
    rw [List.drop_eq_getElem_cons hk]
    show findL p k _ _ (stL (startL l k) (l[k].text.data.toList :: listsOf (textsOf (l.drop (k + 1))))) = _
    have hb : l[k].text.data.toList.length = l[k].text.size := bytes_len _
    rw [stL, hb, Nat.add_assoc, ← hs, findL, ← ih]
    rw [findUp]
    split <;> rfl
theorem find_is {l : List Ln} {t : ByteArray} (p : Nat) (h : textsOf l = piecesB t) : findUp p l l.length = foundL t.data.toList p := by
  have e := find_from p l l.length 0 (by omega)
  rw [← e]
  unfold foundL
  rw [List.drop_zero, h, lists_pieces]
  rfl
end Go.Proofs.YtflpihedhccdfaaGreatDoor
/-
  A splice that is right: by the program.
-/
namespace Go.Proofs.YtflpihedhccdfaaGreatDoor
open Go Go.RowKit

/-- What a splice does, in the lexer's own lines. -/
structure SpliceAt (t s : ByteArray) (p n : Nat) (ls : List Ln) (f d fb gb : Nat) (x z : Ln) (M : ByteArray) : Prop where
  fnd : foundL t.data.toList p = (f, fb)
  fnd2 : foundL t.data.toList (p + n) = (f + d, gb)
  lx : ls[f]? = some x
  lz : ls[f + d]? = some z
  b1 : fb ≤ p
  b2 : p ≤ fb + x.text.size
  b3 : gb ≤ p + n
  b4 : p + n ≤ gb + z.text.size
  mid : M = x.text.extract 0 (p - fb) ++ s ++ z.text.extract (p + n - gb) z.text.size
  put : piecesB (putS t p n s) = textsOf (ls.take f) ++ piecesB M ++ textsOf (ls.drop (f + d + 1))
  new : (piecesB M).length = (piecesB s).length
  chg : chgS t p n s = ⟨f, d + 1, (piecesB s).length⟩
  size : M.size ≤ t.size + s.size

theorem splice_at {t s : ByteArray} {p n : Nat} {ls : List Ln} (h : p + n ≤ t.size) (hls : textsOf ls = piecesB t) :
    ∃ f d fb gb x z M, SpliceAt t s p n ls f d fb gb x z M := by
  obtain ⟨xs, zs, ws, ys, y, z, b, e, h1, hb, h2, he, h3, h4, h5⟩ := splice_parts (s := s) h
  obtain ⟨d, hd⟩ : ∃ d, (foundL t.data.toList (p + n)).1 = (foundL t.data.toList p).1 + d := ⟨_, (Nat.add_sub_cancel' h3).symm⟩
  have k1 := inline_get h1
  have k2 := inline_get h2
  have hmap : linesL t.data.toList = ls.map (fun x => x.text.data.toList) := by
    rw [← lists_pieces, ← hls]
    unfold listsOf textsOf
    rw [List.map_map]
    rfl
  have get : ∀ (i : Nat) (u : List UInt8), (linesL t.data.toList)[i]? = some u → ∃ x, ls[i]? = some x ∧ x.text.data.toList = u := by
    intro i u hu
    rw [hmap, List.getElem?_map] at hu
    cases hl : ls[i]? with
    | none => rw [hl] at hu; cases hu
    | some x => rw [hl] at hu; exact ⟨x, rfl, Option.some.inj hu⟩
  obtain ⟨x, gx, ex⟩ := get _ _ k1.1
  obtain ⟨zz, gz, ez⟩ := get _ _ k2.1
  obtain ⟨M, hM⟩ : ∃ M, M = x.text.extract 0 (p - b) ++ s ++ zz.text.extract (p + n - e) zz.text.size := ⟨_, rfl⟩
  have hMl : M.data.toList = y.take (p - b) ++ s.data.toList ++ z.drop (p + n - e) := by
    rw [hM, bytes_app, bytes_app, bytes_ext, bytes_ext, ex, ez, List.drop_zero, Nat.sub_zero]
    congr 1
    rw [List.take_of_length_le]
    rw [List.length_drop, ← ez, bytes_len]
    exact Nat.le_refl _
  have hp : linesL M.data.toList = linesL (y.take (p - b) ++ s.data.toList ++ z.drop (p + n - e)) := by rw [hMl]
  have hlen1 : y.length = x.text.size := by rw [← ex, bytes_len]
  have hlen2 : z.length = zz.text.size := by rw [← ez, bytes_len]
  have t1 : ∀ k, textsOf (ls.take k) = ((linesL t.data.toList).take k).map toB := by
    intro k
    rw [hmap, ← List.map_take, List.map_map]
    unfold textsOf
    exact List.map_congr_left (fun a _ => (toB_of a.text).symm)
  have t2 : ∀ k, textsOf (ls.drop k) = ((linesL t.data.toList).drop k).map toB := by
    intro k
    rw [hmap, ← List.map_drop, List.map_map]
    unfold textsOf
    exact List.map_congr_left (fun a _ => (toB_of a.text).symm)
  refine ⟨(foundL t.data.toList p).1, d, b, e, x, zz, M, by rw [hb], by rw [← hd, he], gx, by rw [← hd]; exact gz, h1.le, by rw [← hlen1]; exact h1.ge, h2.le, by rw [← hlen2]; exact h2.ge, hM, ?_, ?_, ?_, ?_⟩
  · rw [t1, t2, ← hd, k1.2.1, k2.2.2.1]
    unfold piecesB
    rw [h4, hp, List.map_append, List.map_append]
  · unfold piecesB
    rw [List.length_map, hp, h5]
    unfold piecesB
    rw [List.length_map]
  · unfold chgS
    rw [hd]
    congr 1
    omega
  · have e1 := congrArg List.length hMl
    rw [bytes_len] at e1
    simp only [List.length_append, List.length_take, List.length_drop, bytes_len] at e1
    have e2 := congrArg List.length (in_take h2).2
    simp only [List.length_append, List.length_drop, bytes_len] at e2
    omega
end Go.Proofs.YtflpihedhccdfaaGreatDoor
