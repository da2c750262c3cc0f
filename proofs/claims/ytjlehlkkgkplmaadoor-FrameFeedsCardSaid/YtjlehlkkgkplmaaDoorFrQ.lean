/-
  A body's frame, plainly. No program here.
-/
import Derived.Test.YtjlehlkkgkplmaaDoorFrP
set_option linter.unusedSimpArgs false
set_option linter.unusedVariables false
namespace Go.Proofs.YtjlehlkkgkplmaaDoor
open Go.RowKit

def headOf (n : Nat) : List UInt8 := lengthName ++ [58, 32] ++ digs n
def putL (b : List UInt8) : List UInt8 := headOf b.length ++ ([13, 10, 13, 10] ++ b)
/-- One row of a number. -/
def numOK (n : Nat) : Bool := decide (numOf (digs n) = some n) && ((digs n).all (fun c => decide (48 ≤ c.toNat) && decide (c.toNat ≤ 57)) && (decide (1 ≤ (digs n).length) && decide ((digs n).length ≤ 4)))
theorem numOK_all : (List.range 9001).all numOK = true := by decide +kernel
theorem numOK_of {n : Nat} (h : n ≤ 9000) : numOK n = true := List.all_eq_true.1 numOK_all n (List.mem_range.2 (by omega))

theorem numOK_num {n : Nat} (h : n ≤ 9000) : numOf (digs n) = some n := by
  have := numOK_of h
  unfold numOK at this
  simp only [Bool.and_eq_true, decide_eq_true_eq] at this
  exact this.1
theorem numOK_digit {n : Nat} (h : n ≤ 9000) : ∀ c ∈ digs n, 48 ≤ c.toNat ∧ c.toNat ≤ 57 := by
  have := numOK_of h
  unfold numOK at this
  simp only [Bool.and_eq_true, decide_eq_true_eq, List.all_eq_true] at this
  exact fun c hc => this.2.1 c hc
theorem numOK_len {n : Nat} (h : n ≤ 9000) : 1 ≤ (digs n).length ∧ (digs n).length ≤ 4 := by
  have := numOK_of h
  unfold numOK at this
  simp only [Bool.and_eq_true, decide_eq_true_eq] at this
  exact this.2.2

/-! ### Texts without a line end -/
def CalmT (l : List UInt8) : Prop := ∀ c ∈ l, c ≠ (13 : UInt8)
theorem calm_head {n : Nat} (h : n ≤ 9000) : CalmT (headOf n) := by
  intro c hc
  have e : headOf n = (lengthName ++ [58, 32]) ++ digs n := rfl
  rw [e] at hc
  have ha : (lengthName ++ [58, 32]).all (fun c => c != 13) = true := by decide
  rcases List.mem_append.1 hc with hc | hc
  · have := List.all_eq_true.1 ha c hc
    simpa using this
  · have := numOK_digit h c hc
    intro e
    subst e
    simp at this
theorem endOf_calm (r : List UInt8) : ∀ l : List UInt8, CalmT l → endOf (l ++ ([13, 10, 13, 10] ++ r)) = some l.length
  | [], _ => by simp [endOf]
  | c :: l, h => by
    have hc : c ≠ 13 := h c List.mem_cons_self
    have ih := endOf_calm r l (fun d hd => h d (List.mem_cons_of_mem _ hd))
    have e : ¬ (c :: (l ++ ([13, 10, 13, 10] ++ r))).take 4 = [13, 10, 13, 10] := by
      simp [hc]
    rw [List.cons_append, endOf, if_neg e, ih]
    rfl
/-- A text whose only end of a line is broken off. -/
theorem endOf_broken (r : List UInt8) (hr : endOf r = none) : ∀ l : List UInt8, CalmT l → endOf (l ++ r) = none
  | [], _ => hr
  | c :: l, h => by
    have hc : c ≠ 13 := h c List.mem_cons_self
    have ih := endOf_broken r hr l (fun d hd => h d (List.mem_cons_of_mem _ hd))
    have e : ¬ (c :: (l ++ r)).take 4 = [13, 10, 13, 10] := by
      simp [hc]
    rw [List.cons_append, endOf, if_neg e, ih]
    rfl
theorem linesR_calm : ∀ (k : Nat) (cur l : List UInt8), CalmT l → l.length < k → linesR k cur l = [cur ++ l]
  | 0, _, _, _, h => absurd h (by omega)
  | k + 1, cur, [], _, _ => by simp [linesR]
  | k + 1, cur, c :: l, h, hk => by
    have hc : c ≠ 13 := h c List.mem_cons_self
    have e : ¬ (c :: l).take 2 = [13, 10] := by
      intro e
      have := List.head_eq_of_cons_eq (show c :: (l.take 1) = 13 :: [10] from by simpa using e)
      exact hc this
    rw [linesR, if_neg e, linesR_calm k (cur ++ [c]) l (fun d hd => h d (List.mem_cons_of_mem _ hd)) (by simp at hk; omega)]
    simp
theorem lineOf_head {n : Nat} (h : n ≤ 9000) : lineOf (headOf n) = some (lengthName, digs n) := by
  have hd := numOK_digit h
  have hv : (digs n).all isValB = true := List.all_eq_true.2 fun c hc => by
    have := hd c hc
    unfold isValB
    simp
    omega
  have e1 : (headOf n).takeWhile isNameB = lengthName := by
    unfold headOf lengthName
    simp [isNameB]
  have e2 : (headOf n).drop 14 = [58, 32] ++ digs n := by unfold headOf lengthName; rfl
  have e3 : (headOf n).take 14 = lengthName := by unfold headOf lengthName; rfl
  have e4 : (headOf n).drop 16 = digs n := by unfold headOf lengthName; rfl
  unfold lineOf
  rw [e1]
  have e5 : lengthName.length = 14 := rfl
  simp only [e5, e2, e3, Nat.reduceAdd, e4, hv]
  simp
theorem headSize_head {n : Nat} (h : n ≤ 9000) : headSize (headOf n) = some n := by
  unfold headSize headLines
  rw [linesR_calm _ _ _ (calm_head h) (by omega), List.nil_append, sizeGo, lineOf_head h]
  simp [numOK_num h, sizeGo]
theorem head_len {n : Nat} (h : n ≤ 9000) : (headOf n).length = 16 + (digs n).length ∧ (headOf n).length ≤ 20 := by
  have := numOK_len h
  have e : (headOf n).length = 16 + (digs n).length := by unfold headOf lengthName; simp; omega
  exact ⟨e, by omega⟩
theorem frOf_put {b : List UInt8} (r : List UInt8) (h : b.length ≤ 9000) : frOf (putL b ++ r) = .got ((headOf b.length).length + 4) b.length := by
  obtain ⟨h1, h2⟩ := head_len h
  unfold frOf putL
  have e : ((headOf b.length ++ ([13, 10, 13, 10] ++ b)) ++ r).take 100 = headOf b.length ++ ([13, 10, 13, 10] ++ ((b ++ r).take (100 - (headOf b.length).length - 4))) := by
    rw [List.append_assoc, List.append_assoc, List.take_append, List.take_of_length_le (by omega), List.take_append, List.take_of_length_le (by simp; omega)]
    simp
  rw [e, endOf_calm _ _ (calm_head h)]
  simp only
  have e2 : ((headOf b.length ++ ([13, 10, 13, 10] ++ b)) ++ r).take (headOf b.length).length = headOf b.length := by
    rw [List.append_assoc]
    exact List.take_left
  rw [e2, headSize_head h]
  simp only
  rw [if_neg (by simp; omega)]
/-- The beginning of a frame is no frame yet. -/
theorem frOf_part {b : List UInt8} {n : Nat} (h : b.length ≤ 9000) (hn : n < (putL b).length) : frOf ((putL b).take n) = .more := by
  obtain ⟨h1, h2⟩ := head_len h
  have hd := numOK_len h
  have hpl : (putL b).length = (headOf b.length).length + 4 + b.length := by unfold putL; simp; omega
  have htake : ((putL b).take n).length = n := by rw [List.length_take]; omega
  by_cases hn4 : n < (headOf b.length).length + 4
  · -- no end yet
    have e : (putL b).take n = (headOf b.length).take n ++ ([13, 10, 13, 10] : List UInt8).take (n - (headOf b.length).length) := by
      unfold putL
      rw [List.take_append, List.take_append, show n - (headOf b.length).length - ([13, 10, 13, 10] : List UInt8).length = 0 by simp; omega]
      simp
    have hc : CalmT ((headOf b.length).take n) := fun c hc => calm_head h c (List.mem_of_mem_take hc)
    have hend : endOf (([13, 10, 13, 10] : List UInt8).take (n - (headOf b.length).length)) = none := by
      have : n - (headOf b.length).length < 4 := by omega
      generalize n - (headOf b.length).length = m at this
      rcases (show m = 0 ∨ m = 1 ∨ m = 2 ∨ m = 3 by omega) with rfl | rfl | rfl | rfl <;> decide
    have hnone := endOf_broken _ hend _ hc
    have hlt : ((putL b).take n).length < 100 := by omega
    unfold frOf
    rw [List.take_of_length_le (by omega), e, hnone]
    simp only
    rw [if_neg]
    rintro (h3 | h3)
    · rw [← e] at h3; omega
    · by_cases hn0 : n = 0
      · subst hn0
        simp at h3
      · -- the first byte is a letter
        have hh : ((headOf b.length).take n ++ ([13, 10, 13, 10] : List UInt8).take (n - (headOf b.length).length)).head? = some 67 := by
          have e5 : headOf b.length = 67 :: (headOf b.length).tail := by unfold headOf lengthName; rfl
          rw [e5]
          obtain ⟨m, rfl⟩ : ∃ m, n = m + 1 := ⟨n - 1, by omega⟩
          rfl
        cases hl : ((headOf b.length).take n ++ ([13, 10, 13, 10] : List UInt8).take (n - (headOf b.length).length)) with
        | nil => rw [hl] at hh; cases hh
        | cons c l =>
          rw [hl] at hh h3
          simp at hh
          subst hh
          simp at h3
  · have e : (putL b).take n = headOf b.length ++ ([13, 10, 13, 10] ++ b.take (n - (headOf b.length).length - 4)) := by
      unfold putL
      rw [List.take_append, List.take_of_length_le (by omega), List.take_append, List.take_of_length_le (by simp; omega)]
      simp
    have hi : endOf (((putL b).take n).take 100) = some (headOf b.length).length := by
      rw [e, List.take_append, List.take_of_length_le (by omega), List.take_append, List.take_of_length_le (by simp; omega)]
      exact endOf_calm _ _ (calm_head h)
    have e2 : ((putL b).take n).take (headOf b.length).length = headOf b.length := by
      rw [e]
      exact List.take_left
    unfold frOf
    rw [hi]
    simp only
    rw [e2, headSize_head h]
    simp only
    rw [if_pos (by rw [htake]; omega)]
/-- Frames one behind the other. -/
theorem split_puts (r : List UInt8) : ∀ bs : List (List UInt8), (∀ b ∈ bs, b.length ≤ 9000) → splitS ((bs.map putL).flatten ++ r) = (bs ++ (splitS r).1, (splitS r).2)
  | [], _ => by simp
  | b :: bs, h => by
    have ih := split_puts r bs (fun x hx => h x (List.mem_cons_of_mem _ hx))
    have hb := h b List.mem_cons_self
    have e : ((b :: bs).map putL).flatten ++ r = putL b ++ ((bs.map putL).flatten ++ r) := by simp
    rw [e, splitS_eq, frOf_put _ hb]
    simp only
    have d1 : (putL b ++ ((bs.map putL).flatten ++ r)).drop ((headOf b.length).length + 4) = b ++ ((bs.map putL).flatten ++ r) := by
      unfold putL
      rw [← List.append_assoc (headOf b.length), List.append_assoc]
      exact List.drop_left' (by simp)
    have d2 : (putL b ++ ((bs.map putL).flatten ++ r)).drop ((headOf b.length).length + 4 + b.length) = (bs.map putL).flatten ++ r := by
      rw [← List.drop_drop, d1]
      exact List.drop_left
    rw [d1, d2, ih, List.take_left]
    rfl
end Go.Proofs.YtjlehlkkgkplmaaDoor
