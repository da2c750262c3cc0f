/-
  A head by the document's own program text, plainly. No program here.
-/
import Derived.Test.YtjlehlkkgkplmaaDoorFrS
set_option linter.unusedSimpArgs false
set_option linter.unusedVariables false
namespace Go.Proofs.YtjlehlkkgkplmaaDoor
open Go.RowKit

/-! ### A value's number -/
def lenGo : Nat → List UInt8 → Option Nat
  | n, [] => some n
  | n, c :: l => if c.toNat < 48 ∨ 57 < c.toNat ∨ 9000 < n then none else lenGo (10 * n + (c.toNat - 48)) l
def lenOf (v : List UInt8) : Option Nat := match lenGo 0 v with
  | none => none
  | some n => if 9000 < n ∨ digs n ≠ v then none else some n
def lenOK (n : Nat) : Bool := decide (lenGo 0 (digs n) = some n)
theorem lenOK_all : (List.range 9001).all lenOK = true := by decide +kernel
theorem lenOK_of {n : Nat} (h : n ≤ 9000) : lenGo 0 (digs n) = some n := by
  have := List.all_eq_true.1 lenOK_all n (List.mem_range.2 (by omega))
  unfold lenOK at this
  simpa using this
theorem lenOf_is (v : List UInt8) : lenOf v = numOf v := by
  cases hn : numOf v with
  | some n =>
    obtain ⟨h1, rfl⟩ := numOf_iff.1 hn
    unfold lenOf
    rw [lenOK_of h1]
    simp only
    rw [if_neg (by rintro (h | h); omega; exact h rfl)]
  | none =>
    unfold lenOf
    cases hl : lenGo 0 v with
    | none => rfl
    | some n =>
      simp only
      by_cases h : 9000 < n ∨ digs n ≠ v
      · rw [if_pos h]
      · exfalso
        have h1 : n ≤ 9000 := by
          rcases Nat.lt_or_ge 9000 n with h2 | h2
          · exact absurd (Or.inl h2) h
          · exact h2
        have h2 : digs n = v := Classical.byContradiction fun e => h (.inr e)
        rw [numOf_iff.2 ⟨h1, h2.symm⟩] at hn
        cases hn

/-! ### Where a head ends -/
theorem endOf_at : ∀ (l : List UInt8) (i : Nat), (∀ j, j < i → (l.drop j).take 4 ≠ [13, 10, 13, 10]) → (l.drop i).take 4 = [13, 10, 13, 10] → endOf l = some i
  | [], i, _, h => by simp at h
  | c :: l, 0, _, h => by rw [endOf, if_pos (by simpa using h)]
  | c :: l, i + 1, h1, h2 => by
    have h0 := h1 0 (by omega)
    rw [List.drop_zero] at h0
    rw [endOf, if_neg h0, endOf_at l i (fun j hj => by have := h1 (j + 1) (by omega); simpa using this) (by simpa using h2)]
    rfl
theorem endOf_no : ∀ (l : List UInt8), (∀ j, j + 4 ≤ l.length → (l.drop j).take 4 ≠ [13, 10, 13, 10]) → endOf l = none := by
  intro l h
  cases he : endOf l with
  | none => rfl
  | some i =>
    obtain ⟨h1, h2⟩ := endOf_lt l i he
    exact absurd h2 (h i h1)

/-! ### A head's lines, cut off one by one -/
theorem crlf_take (l : List UInt8) (i : Nat) : Lib.occAt l crlf i = true ↔ (l.drop i).take 2 = crlf := by
  unfold Lib.occAt
  exact pre_take _ _
theorem splitK_more (l : List UInt8) (K : Nat) (h : l.length ≤ K) : Lib.splitK crlf 0 K l = headLines l := by
  rw [headLines_split]
  have h1 := splitK_count (l.length + 1) l K (Nat.lt_succ_self _) (Nat.le_trans (countFrom_le _ _ (Nat.lt_succ_self _)) h)
  have h2 := splitK_count (l.length + 1) l l.length (Nat.lt_succ_self _) (countFrom_le _ _ (Nat.lt_succ_self _))
  rw [← h1, ← h2]
theorem ends_step (h : List UInt8) : ∃ n, n ≤ h.length ∧ ((h ++ crlf).drop n).take 2 = crlf ∧ (∀ j, j < n → ((h ++ crlf).drop j).take 2 ≠ crlf) ∧ (h ++ crlf).take n = h.take n ∧
    ((n = h.length ∧ headLines h = [h] ∧ (h ++ crlf).drop (n + 2) = []) ∨ (n + 2 ≤ h.length ∧ headLines h = h.take n :: headLines (h.drop (n + 2)) ∧ (h ++ crlf).drop (n + 2) = h.drop (n + 2) ++ crlf)) := by
  have hin : ∀ j, j + 2 ≤ h.length → ((h ++ crlf).drop j).take 2 = (h.drop j).take 2 := fun j hj => by
    rw [List.drop_append_of_le_length (by omega), List.take_append_of_le_length (by rw [List.length_drop]; omega)]
  rcases Lib.index_spec h crlf with ⟨h1, h2⟩ | ⟨i, h1, h2, h3, h4⟩
  · refine ⟨h.length, Nat.le_refl _, by rw [List.drop_left]; rfl, fun j hj e => ?_, by rw [List.take_left, List.take_length], .inl ⟨rfl, ?_, by rw [← List.drop_drop, List.drop_left]; rfl⟩⟩
    · by_cases hj2 : j + 2 ≤ h.length
      · rw [hin j hj2] at e
        have := h2 j (by omega)
        rw [(crlf_take _ _).2 e] at this
        cases this
      · obtain rfl : j = h.length - 1 := by omega
        have hx : ((h ++ crlf).drop (h.length - 1)).take 2 = h.drop (h.length - 1) ++ [13] := by
          rw [List.drop_append_of_le_length (by omega), List.take_append, List.take_of_length_le (by rw [List.length_drop]; omega)]
          have : 2 - (h.drop (h.length - 1)).length = 1 := by rw [List.length_drop]; omega
          rw [this]
          rfl
        rw [hx] at e
        have := congrArg List.getLast? e
        simp at this
    · rw [headLines_split, splitK_miss h1]
  · have hr := Lib.index_room h crlf (by omega)
    rw [h1] at hr
    simp only [List.length_cons, List.length_nil] at hr
    have hi2 : i + 2 ≤ h.length := by omega
    refine ⟨i, by omega, by rw [hin i hi2]; exact (crlf_take _ _).1 h3, fun j hj e => ?_, List.take_append_of_le_length (by omega), .inr ⟨hi2, ?_, List.drop_append_of_le_length hi2⟩⟩
    · rw [hin j (by omega)] at e
      have := h4 j hj
      rw [(crlf_take _ _).2 e] at this
      cases this
    · rw [headLines_split]
      obtain ⟨M, hM⟩ : ∃ M, h.length = M + 1 := ⟨h.length - 1, by omega⟩
      rw [hM, splitK_hit h1, splitK_more _ _ (by rw [List.length_drop]; omega)]

/-- What the document's text tells of lines with their ends. -/
def Ends (s : List UInt8) (ls : List (List UInt8)) : Prop := (s = [] ∧ ls = []) ∨ ∃ h, s = h ++ crlf ∧ ls = headLines h
theorem Ends.next {s : List UInt8} {ls : List (List UInt8)} (h : Ends s ls) (h0 : s ≠ []) : ∃ n l ms, n + 2 ≤ s.length ∧ (s.drop n).take 2 = crlf ∧ (∀ j, j < n → (s.drop j).take 2 ≠ crlf) ∧ l = s.take n ∧ ls = l :: ms ∧ Ends (s.drop (n + 2)) ms := by
  rcases h with ⟨rfl, _⟩ | ⟨h, rfl, rfl⟩
  · exact absurd rfl h0
  · obtain ⟨n, h1, h2, h3, h4, h5⟩ := ends_step h
    refine ⟨n, h.take n, ?_⟩
    rcases h5 with ⟨rfl, h6, h7⟩ | ⟨h5, h6, h7⟩
    · exact ⟨[], by simp, h2, h3, h4.symm, by rw [h6, List.take_length], .inl ⟨h7, rfl⟩⟩
    · exact ⟨_, by simp; omega, h2, h3, h4.symm, h6, .inr ⟨_, h7, rfl⟩⟩
end Go.Proofs.YtjlehlkkgkplmaaDoor
