/-
  The walk of a lexer's step: names.
-/
import Derived.Test.YteojnejomgomjaaDoorProg
import Derived.Test.YteojnejomgomjaaDoorReg
import Derived.WalkKit
import Derived.WalkSpells
import Derived.WalkLawsBesides
import Derived.Lib.Hide
import Derived.Lib.MinMax
import Derived.Deep.QuietTactic
import Derived.BigQuiet
import Derived.OwnWalk
import Derived.Deep.AppendLies
import Derived.KernelRfl
import Derived.Test.YteojnejomgomjaaDoorLxB
set_option linter.unusedSimpArgs false
set_option linter.unusedVariables false
namespace Go.Proofs.YteojnejomgomjaaDoor
open Go.RowKit Go.Maps

/-- How a text's first bytes are a name's. -/
theorem name_cases {s : ByteArray} : (many isPartB s.data.toList = 0 ∧ dWord s = 0) ∨ (0 < many isPartB s.data.toList ∧ dWord s = 0 ∧ rLet (byte0 s) = false) ∨ (0 < many isPartB s.data.toList ∧ dWord s = many isPartB s.data.toList ∧ rLet (byte0 s) = true) := by
  by_cases h0 : 0 < dWord s
  · have h1 := word_many h0
    refine .inr (.inr ⟨by omega, h1.symm, ?_⟩)
    unfold dWord wordL at h0
    unfold byte0
    cases hl : s.data.toList with
    | nil => rw [hl] at h0; simp at h0
    | cons c l =>
      rw [hl] at h0
      simp only at h0
      split at h0
      · rename_i hc
        rw [let_r] at hc
        exact hc
      · omega
  · by_cases h1 : many isPartB s.data.toList = 0
    · exact .inl ⟨h1, by omega⟩
    · refine .inr (.inl ⟨by omega, by omega, ?_⟩)
      unfold dWord wordL at h0
      unfold byte0
      cases hl : s.data.toList with
      | nil => rw [hl] at h1; simp [many] at h1
      | cons c l =>
        rw [hl] at h0
        simp only at h0
        split at h0
        · omega
        · rename_i hc
          rw [let_r] at hc
          simpa using hc
theorem byte0_at {s : ByteArray} (h : 0 < s.size) : byte0 s = (s[0]'h).toNat := by
  have e : s.data.toList[0]? = some (s[0]'h) := by
    rw [List.getElem?_eq_getElem (by rw [bytes_len]; exact h)]
    rfl
  unfold byte0
  cases hl : s.data.toList with
  | nil => rw [hl] at e; simp at e
  | cons c l => rw [hl] at e; simp at e; rw [← e]; rfl

set_option maxRecDepth 100000 in
set_option maxHeartbeats 8000000 in
theorem name_any (X : Nat) (s : ByteArray) (w : World) (hL : LexAt w X s) (h1 : 0 < s.size) (hs : s.size ≤ 1000000) :
    Calls Tryd.prog 28 #[.pointer (some ⟨X, 0, none⟩)] w fun e w' => e = .returned (tName s).val ∧ Below w.heap.size w w' := by
  have hB0 := below_new w (.cells zTok tK)
  have hX0 := heap_alloc_new w (.cells zTok tK)
  have hz0 : (w.alloc (.cells zTok tK)).heap.size = w.heap.size + 1 := by simp
  have hL0 := hL.below hB0
  have HW := Lib.hid (whilePart_any s X 0 _ hs hL0.cells.1)
  have hle : many isPartB s.data.toList ≤ s.size := by have := many_le isPartB s.data.toList; rw [bytes_len] at this; exact this
  have HE : Hid (tName s = if dWord s = 0 then noTok else if 20 < dWord s then ⟨10, s.extract 0 (dWord s), noText⟩ else ⟨5, s.extract 0 (dWord s), noText⟩) := Lib.hid rfl
  have hw : wrap32 (((s[0]'h1).toNat : Nat) : Int) = (((s[0]'h1).toNat : Nat) : Int) := by
    have := (s[0]'h1).toNat_lt
    unfold wrap32
    omega
  have HLt := Lib.hid (isLetter_any (s[0]'h1).toNat)
  rw [← hw] at HLt
  clear hw
  have hnc := name_cases (s := s)
  rw [byte0_at h1] at hnc
  generalize many isPartB s.data.toList = n at *
  generalize dWord s = m at *
  rcases hnc with ⟨rfl, rfl⟩ | ⟨hn, rfl, hr⟩ | ⟨hn, rfl, hr⟩
  · rw [if_pos rfl] at HE
    go_enter Tryd.func28, Tryd.ntmps28
    go_wp2_with fail
    refine HW.out.mono ?_
    rintro e w1 ⟨rfl, hb1⟩
    have hB1 : Below w.heap.size w w1 := hB0.trans (hb1.mono (by omega))
    have hX1 := (hb1.block w.heap.size (by omega)).trans hX0
    have x0_hX1 : w1.cell? ⟨w.heap.size, 0, none⟩ = some (.int .i64 0) := by simp [World.cell?, hX1]
    have x1_hX1 : w1.cell? ⟨w.heap.size, 1, none⟩ = some (.string ⟨#[]⟩) := by simp [World.cell?, hX1]
    have x2_hX1 : w1.cell? ⟨w.heap.size, 2, none⟩ = some (.string ⟨#[]⟩) := by simp [World.cell?, hX1]
    have z_hX1 : ∀ j, w1.frozen? ⟨w.heap.size, j, none⟩ = false := fun j => frozen_of_row w1 _ j _ _ hX1
    clear HW hb1 hX0
    go_wp2_with fail
    have hR9 := set3 (b1 := .int .i64 0) (b2 := .string (ByteArray.mk #[])) (b3 := .string (ByteArray.mk #[])) hX1
    have hB9 := ((hB1.setCell (p := ⟨w.heap.size, 0, none⟩) (Nat.le_refl _) (.int .i64 0)).setCell (p := ⟨w.heap.size, 1, none⟩) (Nat.le_refl _) (.string (ByteArray.mk #[]))).setCell (p := ⟨w.heap.size, 2, none⟩) (Nat.le_refl _) (.string (ByteArray.mk #[]))
    generalize (((w1.setCell ⟨w.heap.size, 0, none⟩ (.int .i64 0)).setCell ⟨w.heap.size, 1, none⟩ (.string (ByteArray.mk #[]))).setCell ⟨w.heap.size, 2, none⟩ (.string (ByteArray.mk #[]))) = W9 at *
    have y0 : W9.cell? ⟨w.heap.size, 0, none⟩ = some (.int .i64 0) := by simp [World.cell?, hR9]
    have y1 : W9.cell? ⟨w.heap.size, 1, none⟩ = some (.string (ByteArray.mk #[])) := by simp [World.cell?, hR9]
    have y2 : W9.cell? ⟨w.heap.size, 2, none⟩ = some (.string (ByteArray.mk #[])) := by simp [World.cell?, hR9]
    exact bodyPost_ret (v := .agg #[.int .i64 0, .string (ByteArray.mk #[]), .string (ByteArray.mk #[])]) (by simp [results, Tryd.results28, go_sem, y0, y1, y2]) rfl ⟨by rw [HE.out]; rfl, hB9⟩
  · rw [if_pos rfl] at HE
    rw [hr] at HLt
    clear hr
    go_enter Tryd.func28, Tryd.ntmps28
    go_wp2_with fail
    refine HW.out.mono ?_
    rintro e w1 ⟨rfl, hb1⟩
    have hB1 : Below w.heap.size w w1 := hB0.trans (hb1.mono (by omega))
    have hL1 := hL0.below hb1
    have c1 := hL1.cells.1
    have hX1 := (hb1.block w.heap.size (by omega)).trans hX0
    have x0_hX1 : w1.cell? ⟨w.heap.size, 0, none⟩ = some (.int .i64 0) := by simp [World.cell?, hX1]
    have x1_hX1 : w1.cell? ⟨w.heap.size, 1, none⟩ = some (.string ⟨#[]⟩) := by simp [World.cell?, hX1]
    have x2_hX1 : w1.cell? ⟨w.heap.size, 2, none⟩ = some (.string ⟨#[]⟩) := by simp [World.cell?, hX1]
    have z_hX1 : ∀ j, w1.frozen? ⟨w.heap.size, j, none⟩ = false := fun j => frozen_of_row w1 _ j _ _ hX1
    clear HW hb1 hX0
    go_wp2_with fail
    refine (HLt.out _).mono ?_
    rintro e w2 ⟨rfl, rfl⟩
    go_wp2_with fail
    have hR9 := set3 (b1 := .int .i64 0) (b2 := .string (ByteArray.mk #[])) (b3 := .string (ByteArray.mk #[])) hX1
    have hB9 := ((hB1.setCell (p := ⟨w.heap.size, 0, none⟩) (Nat.le_refl _) (.int .i64 0)).setCell (p := ⟨w.heap.size, 1, none⟩) (Nat.le_refl _) (.string (ByteArray.mk #[]))).setCell (p := ⟨w.heap.size, 2, none⟩) (Nat.le_refl _) (.string (ByteArray.mk #[]))
    generalize (((w2.setCell ⟨w.heap.size, 0, none⟩ (.int .i64 0)).setCell ⟨w.heap.size, 1, none⟩ (.string (ByteArray.mk #[]))).setCell ⟨w.heap.size, 2, none⟩ (.string (ByteArray.mk #[]))) = W9 at *
    have y0 : W9.cell? ⟨w.heap.size, 0, none⟩ = some (.int .i64 0) := by simp [World.cell?, hR9]
    have y1 : W9.cell? ⟨w.heap.size, 1, none⟩ = some (.string (ByteArray.mk #[])) := by simp [World.cell?, hR9]
    have y2 : W9.cell? ⟨w.heap.size, 2, none⟩ = some (.string (ByteArray.mk #[])) := by simp [World.cell?, hR9]
    exact bodyPost_ret (v := .agg #[.int .i64 0, .string (ByteArray.mk #[]), .string (ByteArray.mk #[])]) (by simp [results, Tryd.results28, go_sem, y0, y1, y2]) rfl ⟨by rw [HE.out]; rfl, hB9⟩
  · rw [if_neg (by omega)] at HE
    rw [hr] at HLt
    clear hr
    by_cases h20 : 20 < m
    all_goals
      first | rw [if_pos h20] at HE | rw [if_neg h20] at HE
      go_enter Tryd.func28, Tryd.ntmps28
      go_wp2_with fail
      refine HW.out.mono ?_
      rintro e w1 ⟨rfl, hb1⟩
      have hB1 : Below w.heap.size w w1 := hB0.trans (hb1.mono (by omega))
      have hL1 := hL0.below hb1
      have c1 := hL1.cells.1
      have hX1 := (hb1.block w.heap.size (by omega)).trans hX0
      have hz1 : w.heap.size < w1.heap.size := by have := hb1.size; omega
      clear HW hb1 hX0
      go_wp2_with fail
      refine (HLt.out _).mono ?_
      rintro e w2 ⟨rfl, rfl⟩
      go_wp2_with fail
      have HT := Lib.hid (fun kd => token_any X s ByteArray.empty kd m w2 c1 hle hs)
      refine (HT.out _).mono ?_
      rintro e w3 ⟨rfl, hb3⟩
      have hB3 : Below w.heap.size w w3 := hB1.trans (hb3.mono hB1.size)
      have hX3 := (hb3.block w.heap.size hz1).trans hX1
      have x0_hX3 : w3.cell? ⟨w.heap.size, 0, none⟩ = some (.int .i64 0) := by simp [World.cell?, hX3]
      have x1_hX3 : w3.cell? ⟨w.heap.size, 1, none⟩ = some (.string ⟨#[]⟩) := by simp [World.cell?, hX3]
      have x2_hX3 : w3.cell? ⟨w.heap.size, 2, none⟩ = some (.string ⟨#[]⟩) := by simp [World.cell?, hX3]
      have z_hX3 : ∀ j, w3.frozen? ⟨w.heap.size, j, none⟩ = false := fun j => frozen_of_row w3 _ j _ _ hX3
      clear HT hb3 hL1 hX1 c1
      go_wp2_with fail
    · have hR9 := set3 (b1 := .int .i64 10) (b2 := .string (s.extract 0 m)) (b3 := .string ByteArray.empty) hX3
      have hB9 := ((hB3.setCell (p := ⟨w.heap.size, 0, none⟩) (Nat.le_refl _) (.int .i64 10)).setCell (p := ⟨w.heap.size, 1, none⟩) (Nat.le_refl _) (.string (s.extract 0 m))).setCell (p := ⟨w.heap.size, 2, none⟩) (Nat.le_refl _) (.string ByteArray.empty)
      generalize (((w3.setCell ⟨w.heap.size, 0, none⟩ (.int .i64 10)).setCell ⟨w.heap.size, 1, none⟩ (.string (s.extract 0 m))).setCell ⟨w.heap.size, 2, none⟩ (.string ByteArray.empty)) = W9 at *
      have y0 : W9.cell? ⟨w.heap.size, 0, none⟩ = some (.int .i64 10) := by simp [World.cell?, hR9]
      have y1 : W9.cell? ⟨w.heap.size, 1, none⟩ = some (.string (s.extract 0 m)) := by simp [World.cell?, hR9]
      have y2 : W9.cell? ⟨w.heap.size, 2, none⟩ = some (.string ByteArray.empty) := by simp [World.cell?, hR9]
      exact bodyPost_ret (v := .agg #[.int .i64 10, .string (s.extract 0 m), .string ByteArray.empty]) (by simp [results, Tryd.results28, go_sem, y0, y1, y2]) rfl ⟨by rw [HE.out]; rfl, hB9⟩
    · have hR9 := set3 (b1 := .int .i64 5) (b2 := .string (s.extract 0 m)) (b3 := .string ByteArray.empty) hX3
      have hB9 := ((hB3.setCell (p := ⟨w.heap.size, 0, none⟩) (Nat.le_refl _) (.int .i64 5)).setCell (p := ⟨w.heap.size, 1, none⟩) (Nat.le_refl _) (.string (s.extract 0 m))).setCell (p := ⟨w.heap.size, 2, none⟩) (Nat.le_refl _) (.string ByteArray.empty)
      generalize (((w3.setCell ⟨w.heap.size, 0, none⟩ (.int .i64 5)).setCell ⟨w.heap.size, 1, none⟩ (.string (s.extract 0 m))).setCell ⟨w.heap.size, 2, none⟩ (.string ByteArray.empty)) = W9 at *
      have y0 : W9.cell? ⟨w.heap.size, 0, none⟩ = some (.int .i64 5) := by simp [World.cell?, hR9]
      have y1 : W9.cell? ⟨w.heap.size, 1, none⟩ = some (.string (s.extract 0 m)) := by simp [World.cell?, hR9]
      have y2 : W9.cell? ⟨w.heap.size, 2, none⟩ = some (.string ByteArray.empty) := by simp [World.cell?, hR9]
      exact bodyPost_ret (v := .agg #[.int .i64 5, .string (s.extract 0 m), .string ByteArray.empty]) (by simp [results, Tryd.results28, go_sem, y0, y1, y2]) rfl ⟨by rw [HE.out]; rfl, hB9⟩
end Go.Proofs.YteojnejomgomjaaDoor
