/-
  The glyph that bytes begin with: by the program.
-/
import Derived.Test.YtflpihedhccdfaaGreatDoorProg
import Derived.Test.YtflpihedhccdfaaGreatDoorReg
import Derived.WalkKit
import Derived.WalkSpells
import Derived.WalkLawsBesides
import Derived.Lib.Hide
import Derived.Lib.MinMax
import Derived.Deep.QuietTactic
import Derived.BigQuiet
import Derived.OwnWalk
import Derived.Deep.AppendLies
import Derived.KernelRfl
import Derived.Test.YtflpihedhccdfaaGreatDoorLxM7
import Derived.Test.YtflpihedhccdfaaGreatDoorLxM2
import Derived.Test.YtflpihedhccdfaaGreatDoorRegZ
set_option linter.unusedSimpArgs false
set_option linter.unusedVariables false
namespace Go.Proofs.YtflpihedhccdfaaGreatDoor
open Go.RowKit Go.Maps

theorem gFirst_of {s : ByteArray} {x : Gly} {a : ByteArray} (h : gFirst s = (x.glyph, a.size)) : (gFirst s).1 = x.glyph ∧ (gFirst s).2 = a.size := by rw [h]; exact ⟨rfl, rfl⟩

set_option maxRecDepth 100000 in
set_option maxHeartbeats 4000000 in
/-- The glyph that bytes begin with. -/
theorem gfirst_any (s : ByteArray) (w : World) (hs : s.size ≤ 1000000) :
    Calls Tryz.prog 93 #[.string s] w fun e w' => e = .returned (.tuple #[.string (gFirst s).1, .int .i64 ((gFirst s).2 : Int)]) ∧ Below w.heap.size w w' := by
  have hB1 := below_new w (.cells #[.int .u32 0, .int .i32 0, .int .u32 0, .slice none 0 0, .map none] tT)
  have hX1 := heap_alloc_new w (.cells #[.int .u32 0, .int .i32 0, .int .u32 0, .slice none 0 0, .map none] tT)
  have hz1 : (w.alloc (.cells #[.int .u32 0, .int .i32 0, .int .u32 0, .slice none 0 0, .map none] tT)).heap.size = w.heap.size + 1 := by simp
  obtain ⟨w1, hw1⟩ : ∃ w1, w1 = w.alloc (.cells #[.int .u32 0, .int .i32 0, .int .u32 0, .slice none 0 0, .map none] tT) := ⟨_, rfl⟩
  rw [← hw1] at hB1 hX1 hz1
  have hB2 := below_new w1 (.cells #[.string s, .pointer (some ⟨w.heap.size, 0, none⟩), .pointer none, .slice none 0 0] 186)
  have hX2 := heap_alloc_new w1 (.cells #[.string s, .pointer (some ⟨w.heap.size, 0, none⟩), .pointer none, .slice none 0 0] 186)
  have hz2 : (w1.alloc (.cells #[.string s, .pointer (some ⟨w.heap.size, 0, none⟩), .pointer none, .slice none 0 0] 186)).heap.size = w1.heap.size + 1 := by simp
  rw [hz1] at hX2
  obtain ⟨w2, hw2⟩ : ∃ w2, w2 = w1.alloc (.cells #[.string s, .pointer (some ⟨w.heap.size, 0, none⟩), .pointer none, .slice none 0 0] 186) := ⟨_, rfl⟩
  rw [← hw2] at hB2 hX2 hz2
  have hL : Below w.heap.size w w2 := hB1.trans (hB2.mono (by omega))
  have c0 : w2.cell? ⟨w.heap.size + 1, 0, none⟩ = some (.string s) := by simp [World.cell?, hX2]
  have c1 : w2.cell? ⟨w.heap.size + 1, 1, none⟩ = some (.pointer (some ⟨w.heap.size, 0, none⟩)) := by simp [World.cell?, hX2]
  have hN : NewTab w2 w.heap.size := (hB2.block _ (by omega)).trans hX1
  have HR := Lib.hid (rfirst_any s (w.heap.size + 1) w.heap.size w2 hs c0 c1 hN (by omega))
  rw [hw2, hw1] at HR
  have HL := Lib.hid hL
  rw [hw2, hw1] at HL
  have HZ : Hid (w2.heap.size = w.heap.size + 2) := Lib.hid (by omega)
  rw [hw2, hw1] at HZ
  clear hw1 hw2 hB1 hX1 hz1 hB2 hX2 hz2 hL c0 c1 hN w1 w2
  go_enter Tryz.func93, Tryz.ntmps93
  go_wp2_with fail
  refine HR.out.mono ?_
  rintro e w3 ⟨x, a, rfl, hg, hk⟩
  rw [HZ.out] at hk
  have hb3 : Below w.heap.size w w3 := HL.out.trans ⟨hk.os, hk.tape, hk.output, hk.size, fun k hk1 => hk.block k (by omega) (by omega)⟩
  have HG := Lib.hid (gFirst_of hg)
  clear hg hk HR HZ HL
  go_wp2_with fail
  go_ret2
  refine ⟨by rw [HG.out.1, HG.out.2]; rfl, hb3.alloc hb3.size _⟩
end Go.Proofs.YtflpihedhccdfaaGreatDoor
/-
  The walks of a lexer's steps: by the program.
-/
namespace Go.Proofs.YtflpihedhccdfaaGreatDoor
open Go.RowKit Go.Maps

def noTok : Tok := ⟨0, ByteArray.empty, ByteArray.empty⟩
abbrev tX : TypeId := 152
/-- A lexer at X that reads s. -/
def LexAt (w : World) (X : Nat) (s : ByteArray) : Prop := w.heap[X]? = some (.cells #[.string s, .string (gFirst s).1, .int .i64 ((gFirst s).2 : Int)] tX (0, 0))
theorem LexAt.below {w w' : World} {X : Nat} {s : ByteArray} (h : LexAt w X s) (hb : Below w.heap.size w w') : LexAt w' X s := (hb.block X (Array.getElem?_eq_some_iff.1 h).1).trans h
theorem LexAt.lt {w : World} {X : Nat} {s : ByteArray} (h : LexAt w X s) : X < w.heap.size := (Array.getElem?_eq_some_iff.1 h).1
theorem LexAt.cells {w : World} {X : Nat} {s : ByteArray} (h : LexAt w X s) : w.cell? ⟨X, 0, none⟩ = some (.string s) ∧ w.cell? ⟨X, 1, none⟩ = some (.string (gFirst s).1) ∧ w.cell? ⟨X, 2, none⟩ = some (.int .i64 ((gFirst s).2 : Int)) := by
  unfold LexAt at h
  exact ⟨by simp [World.cell?, h], by simp [World.cell?, h], by simp [World.cell?, h]⟩
theorem firstIn_glyph {s : ByteArray} : ∀ (l : List Gly), (∀ x ∈ l, x.glyph.size ≤ 3) → (firstIn s l).1.size ≤ 3
  | [], _ => Nat.zero_le _
  | x :: l, h => by
    have hx := h x List.mem_cons_self
    unfold firstIn
    split
    · exact hx
    · split
      · exact hx
      · exact firstIn_glyph l (fun y hy => h y (List.mem_cons_of_mem _ hy))
theorem gFirst_glyph (s : ByteArray) : (gFirst s).1.size ≤ 3 := firstIn_glyph glyphs (by decide +kernel)
abbrev zTok : Array Value := #[.int .i64 0, .string ⟨#[]⟩, .string ⟨#[]⟩]
abbrev tK : TypeId := 55

set_option maxRecDepth 100000 in
set_option maxHeartbeats 4000000 in
/-- 'token'. -/
theorem token_any (X : Nat) (s g : ByteArray) (kind : Int) (n : Nat) (w : World) (h0 : w.cell? ⟨X, 0, none⟩ = some (.string s)) (hn : n ≤ s.size) (hs : s.size ≤ 1000000) :
    Calls Tryz.prog 96 #[.pointer (some ⟨X, 0, none⟩), .int .i64 kind, .int .i64 n, .string g] w fun e w' => e = .returned (.agg #[.int .i64 kind, .string (s.extract 0 n), .string g]) ∧ Below w.heap.size w w' := by
  have lX : X < w.heap.size := cell_lt h0
  have hB0 := below_new w (.cells zTok tK)
  have hX0 := heap_alloc_new w (.cells zTok tK)
  have c0 := (hB0.cell (p := ⟨X, 0, none⟩) lX).trans h0
  have z0 : ∀ j, (w.alloc (.cells zTok tK)).frozen? ⟨w.heap.size, j, none⟩ = false := fun j => frozen_of_row _ _ j _ _ hX0
  go_enter Tryz.func96, Tryz.ntmps96
  go_wp2_with fail
  exact bodyPost_ret (v := .agg #[.int .i64 kind, .string (s.extract 0 n), .string g]) (by simp [results, Tryz.results96, go_sem]) rfl ⟨rfl, below_new w _⟩

def tBlank (s : ByteArray) : Tok := if 0 < dBlanks s then ⟨1, s.extract 0 (dBlanks s), noText⟩ else noTok
def tRemark (s : ByteArray) : Tok := if gClass (gFirst s).1 = 6 then ⟨2, s, (gFirst s).1⟩ else noTok
def tName (s : ByteArray) : Tok := if dWord s = 0 then noTok else if 20 < dWord s then ⟨10, s.extract 0 (dWord s), noText⟩ else ⟨5, s.extract 0 (dWord s), noText⟩
def tOther (s : ByteArray) : Tok := ⟨10, s.extract 0 (dStep s), noText⟩
theorem blanks_le (s : ByteArray) : dBlanks s ≤ s.size := by
  have := many_le isBlank s.data.toList
  rw [bytes_len] at this
  exact this
theorem word_le (s : ByteArray) : dWord s ≤ s.size := by
  have := wordL_le s.data.toList
  rw [bytes_len] at this
  exact this

set_option maxRecDepth 100000 in
set_option maxHeartbeats 4000000 in
theorem blank_any (X : Nat) (s : ByteArray) (w : World) (hL : LexAt w X s) (hs : s.size ≤ 1000000) :
    Calls Tryz.prog 79 #[.pointer (some ⟨X, 0, none⟩)] w fun e w' => e = .returned (tBlank s).val ∧ Below w.heap.size w w' := by
  have hB0 := below_new w (.cells zTok tK)
  have hX0 := heap_alloc_new w (.cells zTok tK)
  have hz0 : (w.alloc (.cells zTok tK)).heap.size = w.heap.size + 1 := by simp
  have hL0 := hL.below hB0
  have HW := Lib.hid (whileBlank_any s X 0 _ hs hL0.cells.1)
  have hle := blanks_le s
  have HE : Hid (tBlank s = if 0 < dBlanks s then ⟨1, s.extract 0 (dBlanks s), noText⟩ else noTok) := Lib.hid rfl
  generalize dBlanks s = n at *
  by_cases hn : 0 < n
  · rw [if_pos hn] at HE
    go_enter Tryz.func79, Tryz.ntmps79
    go_wp2_with fail
    refine HW.out.mono ?_
    rintro e w1 ⟨rfl, hb1⟩
    have hB1 : Below w.heap.size w w1 := hB0.trans (hb1.mono (by omega))
    have hL1 := hL0.below hb1
    have hX1 := (hb1.block w.heap.size (by omega)).trans hX0
    have HT := Lib.hid (token_any X s ByteArray.empty 1 n w1 hL1.cells.1 hle hs)
    go_wp2_with fail
    refine HT.out.mono ?_
    rintro e w2 ⟨rfl, hb2⟩
    have hB2 : Below w.heap.size w w2 := hB1.trans (hb2.mono hB1.size)
    have hX2 := (hb2.block w.heap.size (by have := hb1.size; omega)).trans hX1
    have x0 : w2.cell? ⟨w.heap.size, 0, none⟩ = some (.int .i64 0) := by simp [World.cell?, hX2]
    have x1 : w2.cell? ⟨w.heap.size, 1, none⟩ = some (.string ⟨#[]⟩) := by simp [World.cell?, hX2]
    have x2 : w2.cell? ⟨w.heap.size, 2, none⟩ = some (.string ⟨#[]⟩) := by simp [World.cell?, hX2]
    have z0 : ∀ j, w2.frozen? ⟨w.heap.size, j, none⟩ = false := fun j => frozen_of_row w2 _ j _ _ hX2
    clear HW HT hb1 hb2 hL1 hL0 hX1 hX0
    go_wp2_with fail
    have hR9 := set3 (b1 := .int .i64 1) (b2 := .string (s.extract 0 n)) (b3 := .string ByteArray.empty) hX2
    have hB9 := ((hB2.setCell (p := ⟨w.heap.size, 0, none⟩) (Nat.le_refl _) (.int .i64 1)).setCell (p := ⟨w.heap.size, 1, none⟩) (Nat.le_refl _) (.string (s.extract 0 n))).setCell (p := ⟨w.heap.size, 2, none⟩) (Nat.le_refl _) (.string ByteArray.empty)
    generalize (((w2.setCell ⟨w.heap.size, 0, none⟩ (.int .i64 1)).setCell ⟨w.heap.size, 1, none⟩ (.string (s.extract 0 n))).setCell ⟨w.heap.size, 2, none⟩ (.string ByteArray.empty)) = W9 at *
    have y0 : W9.cell? ⟨w.heap.size, 0, none⟩ = some (.int .i64 1) := by simp [World.cell?, hR9]
    have y1 : W9.cell? ⟨w.heap.size, 1, none⟩ = some (.string (s.extract 0 n)) := by simp [World.cell?, hR9]
    have y2 : W9.cell? ⟨w.heap.size, 2, none⟩ = some (.string ByteArray.empty) := by simp [World.cell?, hR9]
    exact bodyPost_ret (v := .agg #[.int .i64 1, .string (s.extract 0 n), .string ByteArray.empty]) (by simp [results, Tryz.results79, go_sem, y0, y1, y2]) rfl ⟨by rw [HE.out]; rfl, hB9⟩
  · rw [if_neg hn] at HE
    go_enter Tryz.func79, Tryz.ntmps79
    go_wp2_with fail
    refine HW.out.mono ?_
    rintro e w1 ⟨rfl, hb1⟩
    have hB1 : Below w.heap.size w w1 := hB0.trans (hb1.mono (by omega))
    have hX1 := (hb1.block w.heap.size (by omega)).trans hX0
    have x0 : w1.cell? ⟨w.heap.size, 0, none⟩ = some (.int .i64 0) := by simp [World.cell?, hX1]
    have x1 : w1.cell? ⟨w.heap.size, 1, none⟩ = some (.string ⟨#[]⟩) := by simp [World.cell?, hX1]
    have x2 : w1.cell? ⟨w.heap.size, 2, none⟩ = some (.string ⟨#[]⟩) := by simp [World.cell?, hX1]
    have z0 : ∀ j, w1.frozen? ⟨w.heap.size, j, none⟩ = false := fun j => frozen_of_row w1 _ j _ _ hX1
    clear HW hb1 hL0 hX0
    go_wp2_with fail
    have hR9 := set3 (b1 := .int .i64 0) (b2 := .string (ByteArray.mk #[])) (b3 := .string (ByteArray.mk #[])) hX1
    have hB9 := ((hB1.setCell (p := ⟨w.heap.size, 0, none⟩) (Nat.le_refl _) (.int .i64 0)).setCell (p := ⟨w.heap.size, 1, none⟩) (Nat.le_refl _) (.string (ByteArray.mk #[]))).setCell (p := ⟨w.heap.size, 2, none⟩) (Nat.le_refl _) (.string (ByteArray.mk #[]))
    generalize (((w1.setCell ⟨w.heap.size, 0, none⟩ (.int .i64 0)).setCell ⟨w.heap.size, 1, none⟩ (.string (ByteArray.mk #[]))).setCell ⟨w.heap.size, 2, none⟩ (.string (ByteArray.mk #[]))) = W9 at *
    have y0 : W9.cell? ⟨w.heap.size, 0, none⟩ = some (.int .i64 0) := by simp [World.cell?, hR9]
    have y1 : W9.cell? ⟨w.heap.size, 1, none⟩ = some (.string (ByteArray.mk #[])) := by simp [World.cell?, hR9]
    have y2 : W9.cell? ⟨w.heap.size, 2, none⟩ = some (.string (ByteArray.mk #[])) := by simp [World.cell?, hR9]
    exact bodyPost_ret (v := .agg #[.int .i64 0, .string (ByteArray.mk #[]), .string (ByteArray.mk #[])]) (by simp [results, Tryz.results79, go_sem, y0, y1, y2]) rfl ⟨by rw [HE.out]; rfl, hB9⟩
end Go.Proofs.YtflpihedhccdfaaGreatDoor
/-
  The walks of a lexer's steps, further: remarks, names, others.
-/
namespace Go.Proofs.YtflpihedhccdfaaGreatDoor
open Go.RowKit Go.Maps

set_option maxRecDepth 100000 in
set_option maxHeartbeats 4000000 in
theorem remark_any (X : Nat) (s : ByteArray) (w : World) (hL : LexAt w X s) (hs : s.size ≤ 1000000) :
    Calls Tryz.prog 80 #[.pointer (some ⟨X, 0, none⟩)] w fun e w' => e = .returned (tRemark s).val ∧ Below w.heap.size w w' := by
  have hB0 := below_new w (.cells zTok tK)
  have hX0 := heap_alloc_new w (.cells zTok tK)
  have hz0 : (w.alloc (.cells zTok tK)).heap.size = w.heap.size + 1 := by simp
  have hL0 := hL.below hB0
  have hg2 := gFirst_glyph s
  obtain ⟨c0, c1, c2⟩ := hL0.cells
  have HW := Lib.hid (class_any (gFirst s).1 (w.alloc (.cells zTok tK)) (by unfold maxLen; omega))
  have HE : Hid (tRemark s = if gClass (gFirst s).1 = 6 then ⟨2, s, (gFirst s).1⟩ else noTok) := Lib.hid rfl
  have HL0 := Lib.hid hL0
  clear hL0 hL
  have HG : Hid (∀ W : World, LexAt W X s → W.cell? ⟨X, 0, none⟩ = some (.string s) ∧ W.cell? ⟨X, 1, none⟩ = some (.string (gFirst s).1)) := Lib.hid (fun W h => ⟨h.cells.1, h.cells.2.1⟩)
  generalize (gFirst s).1 = g at *
  generalize gClass g = cl at *
  by_cases hn : cl = 6
  · subst hn
    rw [if_pos rfl] at HE
    go_enter Tryz.func80, Tryz.ntmps80
    go_wp2_with fail
    refine HW.out.mono ?_
    rintro e w1 ⟨rfl, hb1⟩
    have hB1 : Below w.heap.size w w1 := hB0.trans (hb1.mono (by omega))
    have hL1 := HL0.out.below hb1
    have hX1 := (hb1.block w.heap.size (by omega)).trans hX0
    obtain ⟨d0, d1⟩ := HG.out w1 hL1
    have HT := Lib.hid (token_any X s g 2 s.size w1.drew d0 (Nat.le_refl _) hs)
    have e0 : s.extract 0 s.size = s := ext_all s (Nat.le_refl _)
    rw [e0] at HT
    clear e0 c0 c1 c2
    go_wp2_with fail
    refine wp_region_ordz (S := fun w' => w'.cell? ⟨X, 0, none⟩ = some (.string s) ∧ w'.cell? ⟨X, 1, none⟩ = some (.string g)) [0, 1, 2, 3, 4, 5, 6, 7, 8, 9, 10] [11, 12] 12 (by kernel_rfl) (by kernel_rfl) (fun _ _ _ _ _ h => h) ⟨d0, d1⟩ ?_
    simp only [pick, List.filterMap_cons, List.filterMap_nil, List.getElem?_toArray, List.getElem?_cons_zero, List.getElem?_cons_succ]
    repeat (refine wpHead_step (v := ?_) rfl ?_ ?_; rotate_left; (focus (rintro w1 ⟨d0', d1'⟩; go_simp; try with_reducible rfl)); simp only [Act.put, List.setIfInBounds_toArray, List.set_cons_zero, List.set_cons_succ])
    refine wpHead_nil ?_
    refine wpTailZ_step rfl (fun K hK => ?_)
    go_wp2_with fail
    refine HT.out.mono ?_
    rintro e w2 ⟨rfl, hb2⟩
    have hB2 : Below w.heap.size w w2 := hB1.trans (((Below.refl _ w1).drew).trans (hb2.mono hB1.size))
    have hX2 := (hb2.block w.heap.size (by have := hb1.size; show w.heap.size < w1.heap.size; omega)).trans hX1
    have f0 := (hb2.cell (p := ⟨X, 0, none⟩) (show X < w1.heap.size from hL1.lt)).trans d0
    have f1 := (hb2.cell (p := ⟨X, 1, none⟩) (show X < w1.heap.size from hL1.lt)).trans d1
    have x0_hX2 : w2.cell? ⟨w.heap.size, 0, none⟩ = some (.int .i64 0) := by simp [World.cell?, hX2]
    have x1_hX2 : w2.cell? ⟨w.heap.size, 1, none⟩ = some (.string ⟨#[]⟩) := by simp [World.cell?, hX2]
    have x2_hX2 : w2.cell? ⟨w.heap.size, 2, none⟩ = some (.string ⟨#[]⟩) := by simp [World.cell?, hX2]
    have z_hX2 : ∀ j, w2.frozen? ⟨w.heap.size, j, none⟩ = false := fun j => frozen_of_row w2 _ j _ _ hX2
    clear HW HT hb1 hb2 hL1 hX1 hX0
    go_wp2_with fail
    refine hK _ _ ⟨f0, f1⟩ ?_
    clear hK K
    try simp only [Act.put, List.setIfInBounds_toArray, List.set_cons_zero, List.set_cons_succ]
    refine wpTailZ_last rfl (fun K hK => ?_)
    go_wp2_with fail
    have hR9 := set3 (b1 := .int .i64 2) (b2 := .string s) (b3 := .string g) hX2
    have hB9 := ((hB2.setCell (p := ⟨w.heap.size, 0, none⟩) (Nat.le_refl _) (.int .i64 2)).setCell (p := ⟨w.heap.size, 1, none⟩) (Nat.le_refl _) (.string s)).setCell (p := ⟨w.heap.size, 2, none⟩) (Nat.le_refl _) (.string g)
    generalize (((w2.setCell ⟨w.heap.size, 0, none⟩ (.int .i64 2)).setCell ⟨w.heap.size, 1, none⟩ (.string s)).setCell ⟨w.heap.size, 2, none⟩ (.string g)) = W9 at *
    have y0 : W9.cell? ⟨w.heap.size, 0, none⟩ = some (.int .i64 2) := by simp [World.cell?, hR9]
    have y1 : W9.cell? ⟨w.heap.size, 1, none⟩ = some (.string s) := by simp [World.cell?, hR9]
    have y2 : W9.cell? ⟨w.heap.size, 2, none⟩ = some (.string g) := by simp [World.cell?, hR9]
    exact bodyPost_ret (v := .agg #[.int .i64 2, .string s, .string g]) (by simp [results, Tryz.results80, go_sem, y0, y1, y2]) rfl ⟨by rw [HE.out]; rfl, hB9⟩
  · rw [if_neg hn] at HE
    have q : (cl == 6) = false := by simpa using hn
    go_enter Tryz.func80, Tryz.ntmps80
    go_wp2_with fail
    refine HW.out.mono ?_
    rintro e w1 ⟨rfl, hb1⟩
    have hB1 : Below w.heap.size w w1 := hB0.trans (hb1.mono (by omega))
    have hX1 := (hb1.block w.heap.size (by omega)).trans hX0
    have x0_hX1 : w1.cell? ⟨w.heap.size, 0, none⟩ = some (.int .i64 0) := by simp [World.cell?, hX1]
    have x1_hX1 : w1.cell? ⟨w.heap.size, 1, none⟩ = some (.string ⟨#[]⟩) := by simp [World.cell?, hX1]
    have x2_hX1 : w1.cell? ⟨w.heap.size, 2, none⟩ = some (.string ⟨#[]⟩) := by simp [World.cell?, hX1]
    have z_hX1 : ∀ j, w1.frozen? ⟨w.heap.size, j, none⟩ = false := fun j => frozen_of_row w1 _ j _ _ hX1
    clear HW hb1 hX0
    go_wp2_with fail
    have hR9 := set3 (b1 := .int .i64 0) (b2 := .string (ByteArray.mk #[])) (b3 := .string (ByteArray.mk #[])) hX1
    have hB9 := ((hB1.setCell (p := ⟨w.heap.size, 0, none⟩) (Nat.le_refl _) (.int .i64 0)).setCell (p := ⟨w.heap.size, 1, none⟩) (Nat.le_refl _) (.string (ByteArray.mk #[]))).setCell (p := ⟨w.heap.size, 2, none⟩) (Nat.le_refl _) (.string (ByteArray.mk #[]))
    generalize (((w1.setCell ⟨w.heap.size, 0, none⟩ (.int .i64 0)).setCell ⟨w.heap.size, 1, none⟩ (.string (ByteArray.mk #[]))).setCell ⟨w.heap.size, 2, none⟩ (.string (ByteArray.mk #[]))) = W9 at *
    have y0 : W9.cell? ⟨w.heap.size, 0, none⟩ = some (.int .i64 0) := by simp [World.cell?, hR9]
    have y1 : W9.cell? ⟨w.heap.size, 1, none⟩ = some (.string (ByteArray.mk #[])) := by simp [World.cell?, hR9]
    have y2 : W9.cell? ⟨w.heap.size, 2, none⟩ = some (.string (ByteArray.mk #[])) := by simp [World.cell?, hR9]
    exact bodyPost_ret (v := .agg #[.int .i64 0, .string (ByteArray.mk #[]), .string (ByteArray.mk #[])]) (by simp [results, Tryz.results80, go_sem, y0, y1, y2]) rfl ⟨by rw [HE.out]; rfl, hB9⟩

/-- The tables that decoding reads. -/
abbrev Tabs (w : World) : Prop := Lib.Utf8Tabs (Lay_lays197_ren.g 3) (Lay_lays197_ren.g 4) w
theorem Tabs.below {w w' : World} (h : Tabs w) (hb : Below w.heap.size w w') : Tabs w' := Utf8Tabs_below h hb
theorem step_le {s : ByteArray} (h : 0 < s.size) : dStep s ≤ s.size := (dStep_range h).2

set_option maxRecDepth 100000 in
set_option maxHeartbeats 4000000 in
theorem other_any (X : Nat) (s : ByteArray) (w : World) (hL : LexAt w X s) (hT : Tabs w) (h1 : 0 < s.size) (hs : s.size ≤ 1000000) :
    Calls Tryz.prog 85 #[.pointer (some ⟨X, 0, none⟩)] w fun e w' => e = .returned (tOther s).val ∧ Below w.heap.size w w' := by
  have hB0 := below_new w (.cells zTok tK)
  have hX0 := heap_alloc_new w (.cells zTok tK)
  have hz0 : (w.alloc (.cells zTok tK)).heap.size = w.heap.size + 1 := by simp
  have hL0 := hL.below hB0
  have c0 := hL0.cells.1
  have hd : Lib.decodeGo s = Utf8.decode s 0 := by unfold Lib.decodeGo; rw [if_neg (by omega)]
  have HD := Lay_utf8_DecodeRuneInString s _ (hT.below hB0)
  rw [hd] at HD
  have hle := step_le h1
  have HE : Hid (tOther s = ⟨10, s.extract 0 (dStep s), noText⟩) := Lib.hid rfl
  unfold dStep at HE hle
  have HD := Lib.hid HD
  generalize Utf8.decode s 0 = d at *
  clear hd hL hT
  go_enter Tryz.func85, Tryz.ntmps85
  go_wp2_with fail
  refine HD.out.mono ?_
  rintro e w1 ⟨rfl, hb1⟩
  have hB1 : Below w.heap.size w w1 := hB0.trans (hb1.mono (by omega))
  have hL1 := hL0.below hb1
  have hX1 := (hb1.block w.heap.size (by omega)).trans hX0
  have HT := Lib.hid (token_any X s ByteArray.empty 10 d.2 w1 hL1.cells.1 hle hs)
  go_wp2_with fail
  refine HT.out.mono ?_
  rintro e w2 ⟨rfl, hb2⟩
  have hB2 : Below w.heap.size w w2 := hB1.trans (hb2.mono hB1.size)
  have hX2 := (hb2.block w.heap.size (by have := hb1.size; omega)).trans hX1
  have x0_hX2 : w2.cell? ⟨w.heap.size, 0, none⟩ = some (.int .i64 0) := by simp [World.cell?, hX2]
  have x1_hX2 : w2.cell? ⟨w.heap.size, 1, none⟩ = some (.string ⟨#[]⟩) := by simp [World.cell?, hX2]
  have x2_hX2 : w2.cell? ⟨w.heap.size, 2, none⟩ = some (.string ⟨#[]⟩) := by simp [World.cell?, hX2]
  have z_hX2 : ∀ j, w2.frozen? ⟨w.heap.size, j, none⟩ = false := fun j => frozen_of_row w2 _ j _ _ hX2
  clear HD HT hb1 hb2 hL1 hL0 hX1 hX0
  go_wp2_with fail
  have hR9 := set3 (b1 := .int .i64 10) (b2 := .string (s.extract 0 d.2)) (b3 := .string ByteArray.empty) hX2
  have hB9 := ((hB2.setCell (p := ⟨w.heap.size, 0, none⟩) (Nat.le_refl _) (.int .i64 10)).setCell (p := ⟨w.heap.size, 1, none⟩) (Nat.le_refl _) (.string (s.extract 0 d.2))).setCell (p := ⟨w.heap.size, 2, none⟩) (Nat.le_refl _) (.string ByteArray.empty)
  generalize (((w2.setCell ⟨w.heap.size, 0, none⟩ (.int .i64 10)).setCell ⟨w.heap.size, 1, none⟩ (.string (s.extract 0 d.2))).setCell ⟨w.heap.size, 2, none⟩ (.string ByteArray.empty)) = W9 at *
  have y0 : W9.cell? ⟨w.heap.size, 0, none⟩ = some (.int .i64 10) := by simp [World.cell?, hR9]
  have y1 : W9.cell? ⟨w.heap.size, 1, none⟩ = some (.string (s.extract 0 d.2)) := by simp [World.cell?, hR9]
  have y2 : W9.cell? ⟨w.heap.size, 2, none⟩ = some (.string ByteArray.empty) := by simp [World.cell?, hR9]
  exact bodyPost_ret (v := .agg #[.int .i64 10, .string (s.extract 0 d.2), .string ByteArray.empty]) (by simp [results, Tryz.results85, go_sem, y0, y1, y2]) rfl ⟨by rw [HE.out]; rfl, hB9⟩

end Go.Proofs.YtflpihedhccdfaaGreatDoor
/-
  The walk of a lexer's step: names.
-/
namespace Go.Proofs.YtflpihedhccdfaaGreatDoor
open Go.RowKit Go.Maps

/-- How a text's first bytes are a name's. -/
theorem name_cases {s : ByteArray} : (many isPartB s.data.toList = 0 ∧ dWord s = 0) ∨ (0 < many isPartB s.data.toList ∧ dWord s = 0 ∧ rLet (byte0 s) = false) ∨ (0 < many isPartB s.data.toList ∧ dWord s = many isPartB s.data.toList ∧ rLet (byte0 s) = true) := by
  by_cases h0 : 0 < dWord s
  · have h1 := word_many h0
    refine .inr (.inr ⟨by omega, h1.symm, ?_⟩)
    unfold dWord wordL at h0
    unfold byte0
    cases hl : s.data.toList with
    | nil => rw [hl] at h0; simp at h0
    | cons c l =>
      rw [hl] at h0
      simp only at h0
      split at h0
      · rename_i hc
        rw [let_r] at hc
        exact hc
      · omega
  · by_cases h1 : many isPartB s.data.toList = 0
    · exact .inl ⟨h1, by omega⟩
    · refine .inr (.inl ⟨by omega, by omega, ?_⟩)
      unfold dWord wordL at h0
      unfold byte0
      cases hl : s.data.toList with
      | nil => rw [hl] at h1; simp [many] at h1
      | cons c l =>
        rw [hl] at h0
        simp only at h0
        split at h0
        · omega
        · rename_i hc
          rw [let_r] at hc
          simpa using hc
theorem byte0_at {s : ByteArray} (h : 0 < s.size) : byte0 s = (s[0]'h).toNat := by
  have e : s.data.toList[0]? = some (s[0]'h) := by
    rw [List.getElem?_eq_getElem (by rw [bytes_len]; exact h)]
    rfl
  unfold byte0
  cases hl : s.data.toList with
  | nil => rw [hl] at e; simp at e
  | cons c l => rw [hl] at e; simp at e; rw [← e]; rfl

set_option maxRecDepth 100000 in
set_option maxHeartbeats 8000000 in
theorem name_any (X : Nat) (s : ByteArray) (w : World) (hL : LexAt w X s) (h1 : 0 < s.size) (hs : s.size ≤ 1000000) :
    Calls Tryz.prog 83 #[.pointer (some ⟨X, 0, none⟩)] w fun e w' => e = .returned (tName s).val ∧ Below w.heap.size w w' := by
  have hB0 := below_new w (.cells zTok tK)
  have hX0 := heap_alloc_new w (.cells zTok tK)
  have hz0 : (w.alloc (.cells zTok tK)).heap.size = w.heap.size + 1 := by simp
  have hL0 := hL.below hB0
  have HW := Lib.hid (whilePart_any s X 0 _ hs hL0.cells.1)
  have hle : many isPartB s.data.toList ≤ s.size := by have := many_le isPartB s.data.toList; rw [bytes_len] at this; exact this
  have HE : Hid (tName s = if dWord s = 0 then noTok else if 20 < dWord s then ⟨10, s.extract 0 (dWord s), noText⟩ else ⟨5, s.extract 0 (dWord s), noText⟩) := Lib.hid rfl
  have hw : wrap32 (((s[0]'h1).toNat : Nat) : Int) = (((s[0]'h1).toNat : Nat) : Int) := by
    have := (s[0]'h1).toNat_lt
    unfold wrap32
    omega
  have HLt := Lib.hid (isLetter_any (s[0]'h1).toNat)
  rw [← hw] at HLt
  clear hw
  have hnc := name_cases (s := s)
  rw [byte0_at h1] at hnc
  generalize many isPartB s.data.toList = n at *
  generalize dWord s = m at *
  rcases hnc with ⟨rfl, rfl⟩ | ⟨hn, rfl, hr⟩ | ⟨hn, rfl, hr⟩
  · rw [if_pos rfl] at HE
    go_enter Tryz.func83, Tryz.ntmps83
    go_wp2_with fail
    refine HW.out.mono ?_
    rintro e w1 ⟨rfl, hb1⟩
    have hB1 : Below w.heap.size w w1 := hB0.trans (hb1.mono (by omega))
    have hX1 := (hb1.block w.heap.size (by omega)).trans hX0
    have x0_hX1 : w1.cell? ⟨w.heap.size, 0, none⟩ = some (.int .i64 0) := by simp [World.cell?, hX1]
    have x1_hX1 : w1.cell? ⟨w.heap.size, 1, none⟩ = some (.string ⟨#[]⟩) := by simp [World.cell?, hX1]
    have x2_hX1 : w1.cell? ⟨w.heap.size, 2, none⟩ = some (.string ⟨#[]⟩) := by simp [World.cell?, hX1]
    have z_hX1 : ∀ j, w1.frozen? ⟨w.heap.size, j, none⟩ = false := fun j => frozen_of_row w1 _ j _ _ hX1
    clear HW hb1 hX0
    go_wp2_with fail
    have hR9 := set3 (b1 := .int .i64 0) (b2 := .string (ByteArray.mk #[])) (b3 := .string (ByteArray.mk #[])) hX1
    have hB9 := ((hB1.setCell (p := ⟨w.heap.size, 0, none⟩) (Nat.le_refl _) (.int .i64 0)).setCell (p := ⟨w.heap.size, 1, none⟩) (Nat.le_refl _) (.string (ByteArray.mk #[]))).setCell (p := ⟨w.heap.size, 2, none⟩) (Nat.le_refl _) (.string (ByteArray.mk #[]))
    generalize (((w1.setCell ⟨w.heap.size, 0, none⟩ (.int .i64 0)).setCell ⟨w.heap.size, 1, none⟩ (.string (ByteArray.mk #[]))).setCell ⟨w.heap.size, 2, none⟩ (.string (ByteArray.mk #[]))) = W9 at *
    have y0 : W9.cell? ⟨w.heap.size, 0, none⟩ = some (.int .i64 0) := by simp [World.cell?, hR9]
    have y1 : W9.cell? ⟨w.heap.size, 1, none⟩ = some (.string (ByteArray.mk #[])) := by simp [World.cell?, hR9]
    have y2 : W9.cell? ⟨w.heap.size, 2, none⟩ = some (.string (ByteArray.mk #[])) := by simp [World.cell?, hR9]
    exact bodyPost_ret (v := .agg #[.int .i64 0, .string (ByteArray.mk #[]), .string (ByteArray.mk #[])]) (by simp [results, Tryz.results83, go_sem, y0, y1, y2]) rfl ⟨by rw [HE.out]; rfl, hB9⟩
  · rw [if_pos rfl] at HE
    rw [hr] at HLt
    clear hr
    go_enter Tryz.func83, Tryz.ntmps83
    go_wp2_with fail
    refine HW.out.mono ?_
    rintro e w1 ⟨rfl, hb1⟩
    have hB1 : Below w.heap.size w w1 := hB0.trans (hb1.mono (by omega))
    have hL1 := hL0.below hb1
    have c1 := hL1.cells.1
    have hX1 := (hb1.block w.heap.size (by omega)).trans hX0
    have x0_hX1 : w1.cell? ⟨w.heap.size, 0, none⟩ = some (.int .i64 0) := by simp [World.cell?, hX1]
    have x1_hX1 : w1.cell? ⟨w.heap.size, 1, none⟩ = some (.string ⟨#[]⟩) := by simp [World.cell?, hX1]
    have x2_hX1 : w1.cell? ⟨w.heap.size, 2, none⟩ = some (.string ⟨#[]⟩) := by simp [World.cell?, hX1]
    have z_hX1 : ∀ j, w1.frozen? ⟨w.heap.size, j, none⟩ = false := fun j => frozen_of_row w1 _ j _ _ hX1
    clear HW hb1 hX0
    go_wp2_with fail
    refine (HLt.out _).mono ?_
    rintro e w2 ⟨rfl, rfl⟩
    go_wp2_with fail
    have hR9 := set3 (b1 := .int .i64 0) (b2 := .string (ByteArray.mk #[])) (b3 := .string (ByteArray.mk #[])) hX1
    have hB9 := ((hB1.setCell (p := ⟨w.heap.size, 0, none⟩) (Nat.le_refl _) (.int .i64 0)).setCell (p := ⟨w.heap.size, 1, none⟩) (Nat.le_refl _) (.string (ByteArray.mk #[]))).setCell (p := ⟨w.heap.size, 2, none⟩) (Nat.le_refl _) (.string (ByteArray.mk #[]))
    generalize (((w2.setCell ⟨w.heap.size, 0, none⟩ (.int .i64 0)).setCell ⟨w.heap.size, 1, none⟩ (.string (ByteArray.mk #[]))).setCell ⟨w.heap.size, 2, none⟩ (.string (ByteArray.mk #[]))) = W9 at *
    have y0 : W9.cell? ⟨w.heap.size, 0, none⟩ = some (.int .i64 0) := by simp [World.cell?, hR9]
    have y1 : W9.cell? ⟨w.heap.size, 1, none⟩ = some (.string (ByteArray.mk #[])) := by simp [World.cell?, hR9]
    have y2 : W9.cell? ⟨w.heap.size, 2, none⟩ = some (.string (ByteArray.mk #[])) := by simp [World.cell?, hR9]
    exact bodyPost_ret (v := .agg #[.int .i64 0, .string (ByteArray.mk #[]), .string (ByteArray.mk #[])]) (by simp [results, Tryz.results83, go_sem, y0, y1, y2]) rfl ⟨by rw [HE.out]; rfl, hB9⟩
  · rw [if_neg (by omega)] at HE
    rw [hr] at HLt
    clear hr
    by_cases h20 : 20 < m
    all_goals
      first | rw [if_pos h20] at HE | rw [if_neg h20] at HE
      go_enter Tryz.func83, Tryz.ntmps83
      go_wp2_with fail
      refine HW.out.mono ?_
      rintro e w1 ⟨rfl, hb1⟩
      have hB1 : Below w.heap.size w w1 := hB0.trans (hb1.mono (by omega))
      have hL1 := hL0.below hb1
      have c1 := hL1.cells.1
      have hX1 := (hb1.block w.heap.size (by omega)).trans hX0
      have hz1 : w.heap.size < w1.heap.size := by have := hb1.size; omega
      clear HW hb1 hX0
      go_wp2_with fail
      refine (HLt.out _).mono ?_
      rintro e w2 ⟨rfl, rfl⟩
      go_wp2_with fail
      have HT := Lib.hid (fun kd => token_any X s ByteArray.empty kd m w2 c1 hle hs)
      refine (HT.out _).mono ?_
      rintro e w3 ⟨rfl, hb3⟩
      have hB3 : Below w.heap.size w w3 := hB1.trans (hb3.mono hB1.size)
      have hX3 := (hb3.block w.heap.size hz1).trans hX1
      have x0_hX3 : w3.cell? ⟨w.heap.size, 0, none⟩ = some (.int .i64 0) := by simp [World.cell?, hX3]
      have x1_hX3 : w3.cell? ⟨w.heap.size, 1, none⟩ = some (.string ⟨#[]⟩) := by simp [World.cell?, hX3]
      have x2_hX3 : w3.cell? ⟨w.heap.size, 2, none⟩ = some (.string ⟨#[]⟩) := by simp [World.cell?, hX3]
      have z_hX3 : ∀ j, w3.frozen? ⟨w.heap.size, j, none⟩ = false := fun j => frozen_of_row w3 _ j _ _ hX3
      clear HT hb3 hL1 hX1 c1
      go_wp2_with fail
    · have hR9 := set3 (b1 := .int .i64 10) (b2 := .string (s.extract 0 m)) (b3 := .string ByteArray.empty) hX3
      have hB9 := ((hB3.setCell (p := ⟨w.heap.size, 0, none⟩) (Nat.le_refl _) (.int .i64 10)).setCell (p := ⟨w.heap.size, 1, none⟩) (Nat.le_refl _) (.string (s.extract 0 m))).setCell (p := ⟨w.heap.size, 2, none⟩) (Nat.le_refl _) (.string ByteArray.empty)
      generalize (((w3.setCell ⟨w.heap.size, 0, none⟩ (.int .i64 10)).setCell ⟨w.heap.size, 1, none⟩ (.string (s.extract 0 m))).setCell ⟨w.heap.size, 2, none⟩ (.string ByteArray.empty)) = W9 at *
      have y0 : W9.cell? ⟨w.heap.size, 0, none⟩ = some (.int .i64 10) := by simp [World.cell?, hR9]
      have y1 : W9.cell? ⟨w.heap.size, 1, none⟩ = some (.string (s.extract 0 m)) := by simp [World.cell?, hR9]
      have y2 : W9.cell? ⟨w.heap.size, 2, none⟩ = some (.string ByteArray.empty) := by simp [World.cell?, hR9]
      exact bodyPost_ret (v := .agg #[.int .i64 10, .string (s.extract 0 m), .string ByteArray.empty]) (by simp [results, Tryz.results83, go_sem, y0, y1, y2]) rfl ⟨by rw [HE.out]; rfl, hB9⟩
    · have hR9 := set3 (b1 := .int .i64 5) (b2 := .string (s.extract 0 m)) (b3 := .string ByteArray.empty) hX3
      have hB9 := ((hB3.setCell (p := ⟨w.heap.size, 0, none⟩) (Nat.le_refl _) (.int .i64 5)).setCell (p := ⟨w.heap.size, 1, none⟩) (Nat.le_refl _) (.string (s.extract 0 m))).setCell (p := ⟨w.heap.size, 2, none⟩) (Nat.le_refl _) (.string ByteArray.empty)
      generalize (((w3.setCell ⟨w.heap.size, 0, none⟩ (.int .i64 5)).setCell ⟨w.heap.size, 1, none⟩ (.string (s.extract 0 m))).setCell ⟨w.heap.size, 2, none⟩ (.string ByteArray.empty)) = W9 at *
      have y0 : W9.cell? ⟨w.heap.size, 0, none⟩ = some (.int .i64 5) := by simp [World.cell?, hR9]
      have y1 : W9.cell? ⟨w.heap.size, 1, none⟩ = some (.string (s.extract 0 m)) := by simp [World.cell?, hR9]
      have y2 : W9.cell? ⟨w.heap.size, 2, none⟩ = some (.string ByteArray.empty) := by simp [World.cell?, hR9]
      exact bodyPost_ret (v := .agg #[.int .i64 5, .string (s.extract 0 m), .string ByteArray.empty]) (by simp [results, Tryz.results83, go_sem, y0, y1, y2]) rfl ⟨by rw [HE.out]; rfl, hB9⟩
end Go.Proofs.YtflpihedhccdfaaGreatDoor
/-
  The walk of a lexer's step: texts in quotes.
-/
namespace Go.Proofs.YtflpihedhccdfaaGreatDoor
open Go.RowKit Go.Maps

def tText (s : ByteArray) : Tok := if byte0 s = 39 then (if dQuoted s = 0 then ⟨10, s, noText⟩ else ⟨4, s.extract 0 (dQuoted s), noText⟩) else noTok
/-- Behind a quote, from place i on. -/
def quoShut : List UInt8 → Nat → Nat
  | [], i => i
  | d :: r, i => if d ≠ 39 then i else quoGo r (i + 1)
def quoAt (o : Bool) (l : List UInt8) (i : Nat) : Nat := if o then quoGo l i else quoShut l i
theorem quo_q (l : List UInt8) (i : Nat) : quoGo (39 :: l) i = quoShut l (i + 1) := by
  cases l with
  | nil => exact quo_end i
  | cons d r =>
    by_cases hd : d ≠ 39
    · rw [quo_stop hd]
      show _ = if d ≠ 39 then i + 1 else quoGo r (i + 1 + 1)
      rw [if_pos hd]
    · obtain rfl : d = 39 := by simpa using hd
      rw [quo_two]
      show _ = if (39 : UInt8) ≠ 39 then i + 1 else quoGo r (i + 1 + 1)
      rw [if_neg (by simp)]
theorem quoAt_quote (o : Bool) (l : List UInt8) (i : Nat) : quoAt o (39 :: l) i = quoAt (!o) l (i + 1) := by
  cases o with
  | true => exact quo_q l i
  | false =>
    show (if (39 : UInt8) ≠ 39 then i else quoGo l (i + 1)) = quoGo l (i + 1)
    rw [if_neg (by simp)]
theorem quoAt_open {c : UInt8} (h : c ≠ 39) (l : List UInt8) (i : Nat) : quoAt true (c :: l) i = quoAt true l (i + 1) := quo_other h l i
theorem quoAt_shut {c : UInt8} (h : c ≠ 39) (l : List UInt8) (i : Nat) : quoAt false (c :: l) i = i := if_pos h
theorem quoted_start (s : ByteArray) : quoAt true (s.data.toList.drop 1) 1 = dQuoted s := rfl
theorem quoted_pos {o : Bool} {l : List UInt8} {i : Nat} : True := trivial
theorem bytes_drop {s : ByteArray} {k : Nat} (h : k < s.size) : s.data.toList.drop k = (s[k]'h) :: s.data.toList.drop (k + 1) := by
  have hl : k < s.data.toList.length := by rw [bytes_len]; exact h
  rw [List.drop_eq_getElem_cons hl]
  rfl
theorem byte0_at' {s : ByteArray} (h : 0 < s.size) : byte0 s = (s[0]'h).toNat := by
  unfold byte0
  have := bytes_drop h
  rw [List.drop_zero] at this
  rw [this]
  rfl
theorem byte_39 (c : UInt8) (b : Bool) (h : decide (c = 39) = b) : ((c.toNat : Int) == 39) = b := by
  rw [← h, Bool.eq_iff_iff, beq_iff_eq, decide_eq_true_eq]
  constructor
  · intro h
    exact UInt8.toNat_inj.1 (by show c.toNat = 39; omega)
  · intro h
    rw [h]; rfl

set_option maxRecDepth 100000 in
set_option maxHeartbeats 8000000 in
theorem text_any (X : Nat) (s : ByteArray) (w : World) (hL : LexAt w X s) (h1 : 0 < s.size) (hs : s.size ≤ 1000000) :
    Calls Tryz.prog 81 #[.pointer (some ⟨X, 0, none⟩)] w fun e w' => e = .returned (tText s).val ∧ Below w.heap.size w w' := by
  have hB0 := below_new w (.cells zTok tK)
  have hX0 := heap_alloc_new w (.cells zTok tK)
  have hz0 : (w.alloc (.cells zTok tK)).heap.size = w.heap.size + 1 := by simp
  have hL0 := hL.below hB0
  have c0 := hL0.cells.1
  have HE : Hid (tText s = if byte0 s = 39 then (if dQuoted s = 0 then ⟨10, s, noText⟩ else ⟨4, s.extract 0 (dQuoted s), noText⟩) else noTok) := Lib.hid rfl
  rw [byte0_at' h1] at HE
  by_cases hq : (s[0]'h1) = 39
  · have q0 := byte_39 (s[0]'h1) true (by simpa using hq)
    have q1 : (((s[0]'h1).toNat : Int) != 39) = false := by rw [bne, q0]; rfl
    rw [if_pos (by rw [hq]; rfl)] at HE
    have HQ := Lib.hid (quoted_start s)
    clear hq q0
    have HT := Lib.hid (fun kd n W (h : W.cell? ⟨X, 0, none⟩ = some (.string s)) (hn : n ≤ s.size) => token_any X s ByteArray.empty kd n W h hn hs)
    generalize hQ : dQuoted s = Q at *
    clear hQ
    go_enter Tryz.func81, Tryz.ntmps81
    go_wp2_with fail
    generalize w.alloc (.cells #[.int .i64 0, .string ⟨#[]⟩, .string ⟨#[]⟩] 55) = w1 at *
    have hX1 := hX0
    have x0_hX1 : w1.cell? ⟨w.heap.size, 0, none⟩ = some (.int .i64 0) := by simp [World.cell?, hX1]
    have x1_hX1 : w1.cell? ⟨w.heap.size, 1, none⟩ = some (.string ⟨#[]⟩) := by simp [World.cell?, hX1]
    have x2_hX1 : w1.cell? ⟨w.heap.size, 2, none⟩ = some (.string ⟨#[]⟩) := by simp [World.cell?, hX1]
    have z_hX1 : ∀ j, w1.frozen? ⟨w.heap.size, j, none⟩ = false := fun j => frozen_of_row w1 _ j _ _ hX1
    go_loop [3, 4] (fun o i => ∃ (k : Nat) (b : Bool), i = .int .i64 k ∧ o = .bool b ∧ 1 ≤ k ∧ k ≤ s.size ∧ Hid (quoAt b (s.data.toList.drop k) k = Q)) (fun _ i => s.size - (intOf i).toNat)
    case atStart => exact ⟨1, true, rfl, rfl, Nat.le_refl _, h1, HQ⟩
    case round =>
      obtain ⟨k, b, rfl, rfl, hk1, hk2, HK⟩ := hrel
      by_cases hlt : k < s.size
      · have hd := bytes_drop hlt
        rw [hd] at HK
        clear hd
        by_cases hc : (s[k]'hlt) = 39
        · have qc := byte_39 (s[k]'hlt) true (by simpa using hc)
          rw [hc, quoAt_quote] at HK
          clear hc
          cases b
          all_goals
            go_wp2_with fail
            go_round
            case rel => exact ⟨k + 1, _, by go_num, rfl, by omega, by omega, HK⟩
            case measure => simp [intOf]; omega
        · have qc := byte_39 (s[k]'hlt) false (by simpa using hc)
          cases b with
          | true =>
            rw [quoAt_open hc] at HK
            clear hc
            go_wp2_with fail
            go_round
            case rel => exact ⟨k + 1, _, by go_num, rfl, by omega, by omega, HK⟩
            case measure => simp [intOf]; omega
          | false =>
            rw [quoAt_shut hc] at HK
            rw [← HK.out, if_neg (by omega)] at HE
            clear hc
            go_wp2_with fail
            refine (HT.out _ k _ c0 hk2).mono ?_
            rintro e w3 ⟨rfl, hb3⟩
            have hB3 : Below w.heap.size w w3 := hB0.trans (hb3.mono (by omega))
            have hX3 := (hb3.block w.heap.size (by omega)).trans hX1
            have x0_hX3 : w3.cell? ⟨w.heap.size, 0, none⟩ = some (.int .i64 0) := by simp [World.cell?, hX3]
            have x1_hX3 : w3.cell? ⟨w.heap.size, 1, none⟩ = some (.string ⟨#[]⟩) := by simp [World.cell?, hX3]
            have x2_hX3 : w3.cell? ⟨w.heap.size, 2, none⟩ = some (.string ⟨#[]⟩) := by simp [World.cell?, hX3]
            have z_hX3 : ∀ j, w3.frozen? ⟨w.heap.size, j, none⟩ = false := fun j => frozen_of_row w3 _ j _ _ hX3
            go_wp2_with fail
            have hR9 := set3 (b1 := .int .i64 4) (b2 := .string (s.extract 0 k)) (b3 := .string ByteArray.empty) hX3
            have hB9 := ((hB3.setCell (p := ⟨w.heap.size, 0, none⟩) (Nat.le_refl _) (.int .i64 4)).setCell (p := ⟨w.heap.size, 1, none⟩) (Nat.le_refl _) (.string (s.extract 0 k))).setCell (p := ⟨w.heap.size, 2, none⟩) (Nat.le_refl _) (.string ByteArray.empty)
            generalize (((w3.setCell ⟨w.heap.size, 0, none⟩ (.int .i64 4)).setCell ⟨w.heap.size, 1, none⟩ (.string (s.extract 0 k))).setCell ⟨w.heap.size, 2, none⟩ (.string ByteArray.empty)) = W9 at *
            have y0 : W9.cell? ⟨w.heap.size, 0, none⟩ = some (.int .i64 4) := by simp [World.cell?, hR9]
            have y1 : W9.cell? ⟨w.heap.size, 1, none⟩ = some (.string (s.extract 0 k)) := by simp [World.cell?, hR9]
            have y2 : W9.cell? ⟨w.heap.size, 2, none⟩ = some (.string ByteArray.empty) := by simp [World.cell?, hR9]
            exact bodyPost_ret (v := .agg #[.int .i64 4, .string (s.extract 0 k), .string ByteArray.empty]) (by simp [results, Tryz.results81, go_sem, y0, y1, y2]) rfl ⟨by rw [HE.out]; rfl, hB9⟩
      · obtain rfl : k = s.size := by omega
        rw [List.drop_of_length_le (by rw [bytes_len]; exact Nat.le_refl _)] at HK
        have e0 : s.extract 0 s.size = s := ext_all s (Nat.le_refl _)
        have hnil : ∀ i, quoAt true [] i = 0 := quo_nil
        have hnil2 : ∀ i, quoAt false [] i = i := fun _ => rfl
        cases b with
        | true =>
          rw [hnil] at HK
          rw [← HK.out, if_pos rfl] at HE
          clear hnil hnil2 HK
          have HT2 := Lib.hid (HT.out 10 s.size w1 c0 (Nat.le_refl _))
          rw [e0] at HT2
          clear e0
          go_wp2_with fail
          refine HT2.out.mono ?_
          rintro e w3 ⟨rfl, hb3⟩
          have hB3 : Below w.heap.size w w3 := hB0.trans (hb3.mono (by omega))
          have hX3 := (hb3.block w.heap.size (by omega)).trans hX1
          have x0_hX3 : w3.cell? ⟨w.heap.size, 0, none⟩ = some (.int .i64 0) := by simp [World.cell?, hX3]
          have x1_hX3 : w3.cell? ⟨w.heap.size, 1, none⟩ = some (.string ⟨#[]⟩) := by simp [World.cell?, hX3]
          have x2_hX3 : w3.cell? ⟨w.heap.size, 2, none⟩ = some (.string ⟨#[]⟩) := by simp [World.cell?, hX3]
          have z_hX3 : ∀ j, w3.frozen? ⟨w.heap.size, j, none⟩ = false := fun j => frozen_of_row w3 _ j _ _ hX3
          go_wp2_with fail
          have hR9 := set3 (b1 := .int .i64 10) (b2 := .string s) (b3 := .string ByteArray.empty) hX3
          have hB9 := ((hB3.setCell (p := ⟨w.heap.size, 0, none⟩) (Nat.le_refl _) (.int .i64 10)).setCell (p := ⟨w.heap.size, 1, none⟩) (Nat.le_refl _) (.string s)).setCell (p := ⟨w.heap.size, 2, none⟩) (Nat.le_refl _) (.string ByteArray.empty)
          generalize (((w3.setCell ⟨w.heap.size, 0, none⟩ (.int .i64 10)).setCell ⟨w.heap.size, 1, none⟩ (.string s)).setCell ⟨w.heap.size, 2, none⟩ (.string ByteArray.empty)) = W9 at *
          have y0 : W9.cell? ⟨w.heap.size, 0, none⟩ = some (.int .i64 10) := by simp [World.cell?, hR9]
          have y1 : W9.cell? ⟨w.heap.size, 1, none⟩ = some (.string s) := by simp [World.cell?, hR9]
          have y2 : W9.cell? ⟨w.heap.size, 2, none⟩ = some (.string ByteArray.empty) := by simp [World.cell?, hR9]
          exact bodyPost_ret (v := .agg #[.int .i64 10, .string s, .string ByteArray.empty]) (by simp [results, Tryz.results81, go_sem, y0, y1, y2]) rfl ⟨by rw [HE.out]; rfl, hB9⟩
        | false =>
          rw [hnil2] at HK
          rw [← HK.out, if_neg (by omega), e0] at HE
          clear hnil hnil2 HK
          have HT2 := Lib.hid (HT.out 4 s.size w1 c0 (Nat.le_refl _))
          rw [e0] at HT2
          clear e0
          go_wp2_with fail
          refine HT2.out.mono ?_
          rintro e w3 ⟨rfl, hb3⟩
          have hB3 : Below w.heap.size w w3 := hB0.trans (hb3.mono (by omega))
          have hX3 := (hb3.block w.heap.size (by omega)).trans hX1
          have x0_hX3 : w3.cell? ⟨w.heap.size, 0, none⟩ = some (.int .i64 0) := by simp [World.cell?, hX3]
          have x1_hX3 : w3.cell? ⟨w.heap.size, 1, none⟩ = some (.string ⟨#[]⟩) := by simp [World.cell?, hX3]
          have x2_hX3 : w3.cell? ⟨w.heap.size, 2, none⟩ = some (.string ⟨#[]⟩) := by simp [World.cell?, hX3]
          have z_hX3 : ∀ j, w3.frozen? ⟨w.heap.size, j, none⟩ = false := fun j => frozen_of_row w3 _ j _ _ hX3
          go_wp2_with fail
          have hR9 := set3 (b1 := .int .i64 4) (b2 := .string s) (b3 := .string ByteArray.empty) hX3
          have hB9 := ((hB3.setCell (p := ⟨w.heap.size, 0, none⟩) (Nat.le_refl _) (.int .i64 4)).setCell (p := ⟨w.heap.size, 1, none⟩) (Nat.le_refl _) (.string s)).setCell (p := ⟨w.heap.size, 2, none⟩) (Nat.le_refl _) (.string ByteArray.empty)
          generalize (((w3.setCell ⟨w.heap.size, 0, none⟩ (.int .i64 4)).setCell ⟨w.heap.size, 1, none⟩ (.string s)).setCell ⟨w.heap.size, 2, none⟩ (.string ByteArray.empty)) = W9 at *
          have y0 : W9.cell? ⟨w.heap.size, 0, none⟩ = some (.int .i64 4) := by simp [World.cell?, hR9]
          have y1 : W9.cell? ⟨w.heap.size, 1, none⟩ = some (.string s) := by simp [World.cell?, hR9]
          have y2 : W9.cell? ⟨w.heap.size, 2, none⟩ = some (.string ByteArray.empty) := by simp [World.cell?, hR9]
          exact bodyPost_ret (v := .agg #[.int .i64 4, .string s, .string ByteArray.empty]) (by simp [results, Tryz.results81, go_sem, y0, y1, y2]) rfl ⟨by rw [HE.out]; rfl, hB9⟩
  · have q0 := byte_39 (s[0]'h1) false (by simpa using hq)
    have q1 : (((s[0]'h1).toNat : Int) != 39) = true := by rw [bne, q0]; rfl
    rw [if_neg (show ¬ (s[0]'h1).toNat = 39 from fun h => hq (UInt8.toNat_inj.1 h))] at HE
    clear hq q0
    go_enter Tryz.func81, Tryz.ntmps81
    go_wp2_with fail
    exact bodyPost_ret (v := .agg #[.int .i64 0, .string ⟨#[]⟩, .string ⟨#[]⟩]) (by simp [results, Tryz.results81, go_sem]) rfl ⟨by rw [HE.out]; rfl, hB0⟩
end Go.Proofs.YtflpihedhccdfaaGreatDoor
