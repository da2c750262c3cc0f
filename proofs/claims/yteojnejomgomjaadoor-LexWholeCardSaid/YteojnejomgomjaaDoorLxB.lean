/-
  The walks of a lexer's steps: by the program.
-/
import Derived.Test.YteojnejomgomjaaDoorProg
import Derived.Test.YteojnejomgomjaaDoorReg
import Derived.WalkKit
import Derived.WalkSpells
import Derived.WalkLawsBesides
import Derived.Lib.Hide
import Derived.Lib.MinMax
import Derived.Deep.QuietTactic
import Derived.BigQuiet
import Derived.OwnWalk
import Derived.Deep.AppendLies
import Derived.KernelRfl
import Derived.Test.YteojnejomgomjaaDoorLxA
import Derived.Test.YteojnejomgomjaaDoorLxGf
set_option linter.unusedSimpArgs false
set_option linter.unusedVariables false
namespace Go.Proofs.YteojnejomgomjaaDoor
open Go.RowKit Go.Maps

def noTok : Tok := ⟨0, ByteArray.empty, ByteArray.empty⟩
abbrev tX : TypeId := 55
/-- A lexer at X that reads s. -/
def LexAt (w : World) (X : Nat) (s : ByteArray) : Prop := w.heap[X]? = some (.cells #[.string s, .string (gFirst s).1, .int .i64 ((gFirst s).2 : Int)] tX (0, 0))
theorem LexAt.below {w w' : World} {X : Nat} {s : ByteArray} (h : LexAt w X s) (hb : Below w.heap.size w w') : LexAt w' X s := (hb.block X (Array.getElem?_eq_some_iff.1 h).1).trans h
theorem LexAt.lt {w : World} {X : Nat} {s : ByteArray} (h : LexAt w X s) : X < w.heap.size := (Array.getElem?_eq_some_iff.1 h).1
theorem LexAt.cells {w : World} {X : Nat} {s : ByteArray} (h : LexAt w X s) : w.cell? ⟨X, 0, none⟩ = some (.string s) ∧ w.cell? ⟨X, 1, none⟩ = some (.string (gFirst s).1) ∧ w.cell? ⟨X, 2, none⟩ = some (.int .i64 ((gFirst s).2 : Int)) := by
  unfold LexAt at h
  exact ⟨by simp [World.cell?, h], by simp [World.cell?, h], by simp [World.cell?, h]⟩
theorem firstIn_glyph {s : ByteArray} : ∀ (l : List Gly), (∀ x ∈ l, x.glyph.size ≤ 3) → (firstIn s l).1.size ≤ 3
  | [], _ => Nat.zero_le _
  | x :: l, h => by
    have hx := h x List.mem_cons_self
    unfold firstIn
    split
    · exact hx
    · split
      · exact hx
      · exact firstIn_glyph l (fun y hy => h y (List.mem_cons_of_mem _ hy))
theorem gFirst_glyph (s : ByteArray) : (gFirst s).1.size ≤ 3 := firstIn_glyph glyphs (by decide +kernel)
abbrev zTok : Array Value := #[.int .i64 0, .string ⟨#[]⟩, .string ⟨#[]⟩]
abbrev tK : TypeId := 27

set_option maxRecDepth 100000 in
set_option maxHeartbeats 4000000 in
/-- 'token'. -/
theorem token_any (X : Nat) (s g : ByteArray) (kind : Int) (n : Nat) (w : World) (h0 : w.cell? ⟨X, 0, none⟩ = some (.string s)) (hn : n ≤ s.size) (hs : s.size ≤ 1000000) :
    Calls Tryd.prog 37 #[.pointer (some ⟨X, 0, none⟩), .int .i64 kind, .int .i64 n, .string g] w fun e w' => e = .returned (.agg #[.int .i64 kind, .string (s.extract 0 n), .string g]) ∧ Below w.heap.size w w' := by
  have lX : X < w.heap.size := cell_lt h0
  have hB0 := below_new w (.cells zTok tK)
  have hX0 := heap_alloc_new w (.cells zTok tK)
  have c0 := (hB0.cell (p := ⟨X, 0, none⟩) lX).trans h0
  have z0 : ∀ j, (w.alloc (.cells zTok tK)).frozen? ⟨w.heap.size, j, none⟩ = false := fun j => frozen_of_row _ _ j _ _ hX0
  go_enter Tryd.func37, Tryd.ntmps37
  go_wp2_with fail
  exact bodyPost_ret (v := .agg #[.int .i64 kind, .string (s.extract 0 n), .string g]) (by simp [results, Tryd.results37, go_sem]) rfl ⟨rfl, below_new w _⟩

def tBlank (s : ByteArray) : Tok := if 0 < dBlanks s then ⟨1, s.extract 0 (dBlanks s), noText⟩ else noTok
def tRemark (s : ByteArray) : Tok := if gClass (gFirst s).1 = 6 then ⟨2, s, (gFirst s).1⟩ else noTok
def tName (s : ByteArray) : Tok := if dWord s = 0 then noTok else if 20 < dWord s then ⟨10, s.extract 0 (dWord s), noText⟩ else ⟨5, s.extract 0 (dWord s), noText⟩
def tOther (s : ByteArray) : Tok := ⟨10, s.extract 0 (dStep s), noText⟩
theorem blanks_le (s : ByteArray) : dBlanks s ≤ s.size := by
  have := many_le isBlank s.data.toList
  rw [bytes_len] at this
  exact this
theorem word_le (s : ByteArray) : dWord s ≤ s.size := by
  have := wordL_le s.data.toList
  rw [bytes_len] at this
  exact this

set_option maxRecDepth 100000 in
set_option maxHeartbeats 4000000 in
theorem blank_any (X : Nat) (s : ByteArray) (w : World) (hL : LexAt w X s) (hs : s.size ≤ 1000000) :
    Calls Tryd.prog 24 #[.pointer (some ⟨X, 0, none⟩)] w fun e w' => e = .returned (tBlank s).val ∧ Below w.heap.size w w' := by
  have hB0 := below_new w (.cells zTok tK)
  have hX0 := heap_alloc_new w (.cells zTok tK)
  have hz0 : (w.alloc (.cells zTok tK)).heap.size = w.heap.size + 1 := by simp
  have hL0 := hL.below hB0
  have HW := Lib.hid (whileBlank_any s X 0 _ hs hL0.cells.1)
  have hle := blanks_le s
  have HE : Hid (tBlank s = if 0 < dBlanks s then ⟨1, s.extract 0 (dBlanks s), noText⟩ else noTok) := Lib.hid rfl
  generalize dBlanks s = n at *
  by_cases hn : 0 < n
  · rw [if_pos hn] at HE
    go_enter Tryd.func24, Tryd.ntmps24
    go_wp2_with fail
    refine HW.out.mono ?_
    rintro e w1 ⟨rfl, hb1⟩
    have hB1 : Below w.heap.size w w1 := hB0.trans (hb1.mono (by omega))
    have hL1 := hL0.below hb1
    have hX1 := (hb1.block w.heap.size (by omega)).trans hX0
    have HT := Lib.hid (token_any X s ByteArray.empty 1 n w1 hL1.cells.1 hle hs)
    go_wp2_with fail
    refine HT.out.mono ?_
    rintro e w2 ⟨rfl, hb2⟩
    have hB2 : Below w.heap.size w w2 := hB1.trans (hb2.mono hB1.size)
    have hX2 := (hb2.block w.heap.size (by have := hb1.size; omega)).trans hX1
    have x0 : w2.cell? ⟨w.heap.size, 0, none⟩ = some (.int .i64 0) := by simp [World.cell?, hX2]
    have x1 : w2.cell? ⟨w.heap.size, 1, none⟩ = some (.string ⟨#[]⟩) := by simp [World.cell?, hX2]
    have x2 : w2.cell? ⟨w.heap.size, 2, none⟩ = some (.string ⟨#[]⟩) := by simp [World.cell?, hX2]
    have z0 : ∀ j, w2.frozen? ⟨w.heap.size, j, none⟩ = false := fun j => frozen_of_row w2 _ j _ _ hX2
    clear HW HT hb1 hb2 hL1 hL0 hX1 hX0
    go_wp2_with fail
    have hR9 := set3 (b1 := .int .i64 1) (b2 := .string (s.extract 0 n)) (b3 := .string ByteArray.empty) hX2
    have hB9 := ((hB2.setCell (p := ⟨w.heap.size, 0, none⟩) (Nat.le_refl _) (.int .i64 1)).setCell (p := ⟨w.heap.size, 1, none⟩) (Nat.le_refl _) (.string (s.extract 0 n))).setCell (p := ⟨w.heap.size, 2, none⟩) (Nat.le_refl _) (.string ByteArray.empty)
    generalize (((w2.setCell ⟨w.heap.size, 0, none⟩ (.int .i64 1)).setCell ⟨w.heap.size, 1, none⟩ (.string (s.extract 0 n))).setCell ⟨w.heap.size, 2, none⟩ (.string ByteArray.empty)) = W9 at *
    have y0 : W9.cell? ⟨w.heap.size, 0, none⟩ = some (.int .i64 1) := by simp [World.cell?, hR9]
    have y1 : W9.cell? ⟨w.heap.size, 1, none⟩ = some (.string (s.extract 0 n)) := by simp [World.cell?, hR9]
    have y2 : W9.cell? ⟨w.heap.size, 2, none⟩ = some (.string ByteArray.empty) := by simp [World.cell?, hR9]
    exact bodyPost_ret (v := .agg #[.int .i64 1, .string (s.extract 0 n), .string ByteArray.empty]) (by simp [results, Tryd.results24, go_sem, y0, y1, y2]) rfl ⟨by rw [HE.out]; rfl, hB9⟩
  · rw [if_neg hn] at HE
    go_enter Tryd.func24, Tryd.ntmps24
    go_wp2_with fail
    refine HW.out.mono ?_
    rintro e w1 ⟨rfl, hb1⟩
    have hB1 : Below w.heap.size w w1 := hB0.trans (hb1.mono (by omega))
    have hX1 := (hb1.block w.heap.size (by omega)).trans hX0
    have x0 : w1.cell? ⟨w.heap.size, 0, none⟩ = some (.int .i64 0) := by simp [World.cell?, hX1]
    have x1 : w1.cell? ⟨w.heap.size, 1, none⟩ = some (.string ⟨#[]⟩) := by simp [World.cell?, hX1]
    have x2 : w1.cell? ⟨w.heap.size, 2, none⟩ = some (.string ⟨#[]⟩) := by simp [World.cell?, hX1]
    have z0 : ∀ j, w1.frozen? ⟨w.heap.size, j, none⟩ = false := fun j => frozen_of_row w1 _ j _ _ hX1
    clear HW hb1 hL0 hX0
    go_wp2_with fail
    have hR9 := set3 (b1 := .int .i64 0) (b2 := .string (ByteArray.mk #[])) (b3 := .string (ByteArray.mk #[])) hX1
    have hB9 := ((hB1.setCell (p := ⟨w.heap.size, 0, none⟩) (Nat.le_refl _) (.int .i64 0)).setCell (p := ⟨w.heap.size, 1, none⟩) (Nat.le_refl _) (.string (ByteArray.mk #[]))).setCell (p := ⟨w.heap.size, 2, none⟩) (Nat.le_refl _) (.string (ByteArray.mk #[]))
    generalize (((w1.setCell ⟨w.heap.size, 0, none⟩ (.int .i64 0)).setCell ⟨w.heap.size, 1, none⟩ (.string (ByteArray.mk #[]))).setCell ⟨w.heap.size, 2, none⟩ (.string (ByteArray.mk #[]))) = W9 at *
    have y0 : W9.cell? ⟨w.heap.size, 0, none⟩ = some (.int .i64 0) := by simp [World.cell?, hR9]
    have y1 : W9.cell? ⟨w.heap.size, 1, none⟩ = some (.string (ByteArray.mk #[])) := by simp [World.cell?, hR9]
    have y2 : W9.cell? ⟨w.heap.size, 2, none⟩ = some (.string (ByteArray.mk #[])) := by simp [World.cell?, hR9]
    exact bodyPost_ret (v := .agg #[.int .i64 0, .string (ByteArray.mk #[]), .string (ByteArray.mk #[])]) (by simp [results, Tryd.results24, go_sem, y0, y1, y2]) rfl ⟨by rw [HE.out]; rfl, hB9⟩
end Go.Proofs.YteojnejomgomjaaDoor
