/-
  A head's lines are what 'strings.Split' makes of it, plainly. No program here.
-/
import Derived.Test.YtjlehlkkgkplmaaDoorFrR
set_option linter.unusedSimpArgs false
set_option linter.unusedVariables false
namespace Go.Proofs.YtjlehlkkgkplmaaDoor
open Go.RowKit

abbrev crlf : List UInt8 := [13, 10]
theorem index_cons (c : UInt8) (l : List UInt8) : Lib.index (c :: l) crlf = if (c :: l).take 2 = crlf then 0 else if Lib.index l crlf = -1 then -1 else Lib.index l crlf + 1 := by
  rw [Lib.index]
  by_cases h : (c :: l).take 2 = crlf
  · rw [if_pos ((pre_take [13, 10] (c :: l)).2 h), if_pos h]
  · rw [if_neg (fun e => h ((pre_take [13, 10] (c :: l)).1 e)), if_neg h]
    simp
theorem splitK_miss {K : Nat} {l : List UInt8} (h : Lib.index l crlf = -1) : Lib.splitK crlf 0 K l = [l] := by
  cases K with
  | zero => rfl
  | succ K => simp [Lib.splitK, h]
theorem splitK_hit {K : Nat} {l : List UInt8} {i : Nat} (h : Lib.index l crlf = (i : Int)) : Lib.splitK crlf 0 (K + 1) l = l.take i :: Lib.splitK crlf 0 K (l.drop (i + 2)) := by
  have : ¬ ((i : Int) = -1) := by omega
  simp [Lib.splitK, h, this]
theorem linesR_split : ∀ (n : Nat) (l cur : List UInt8) (k K : Nat), l.length ≤ n → l.length < k → l.length ≤ K → ∃ x xs, Lib.splitK crlf 0 K l = x :: xs ∧ linesR k cur l = (cur ++ x) :: xs
  | _, [], cur, k, K, _, hk, _ => by
    obtain ⟨j, rfl⟩ : ∃ j, k = j + 1 := ⟨k - 1, by simp at hk; omega⟩
    exact ⟨[], [], splitK_miss rfl, by simp [linesR]⟩
  | 0, c :: l, _, _, _, h, _, _ => by simp at h
  | n + 1, c :: l, cur, k, K, hn, hk, hK => by
    simp only [List.length_cons] at hn hk hK
    obtain ⟨j, rfl⟩ : ∃ j, k = j + 1 := ⟨k - 1, by omega⟩
    obtain ⟨M, rfl⟩ : ∃ M, K = M + 1 := ⟨K - 1, by omega⟩
    by_cases hc : (c :: l).take 2 = crlf
    · have hi : Lib.index (c :: l) crlf = ((0 : Nat) : Int) := by rw [index_cons, if_pos hc]; rfl
      have hd : (c :: l).drop (0 + 2) = l.drop 1 := rfl
      obtain ⟨x, xs, h1, h2⟩ := linesR_split n (l.drop 1) [] j M (by rw [List.length_drop]; omega) (by rw [List.length_drop]; omega) (by rw [List.length_drop]; omega)
      refine ⟨[], x :: xs, ?_, ?_⟩
      · rw [splitK_hit hi, hd, h1]
        rfl
      · rw [linesR, if_pos hc, h2]
        simp
    · obtain ⟨x, xs, h1, h2⟩ := linesR_split n l (cur ++ [c]) j (M + 1) (by omega) (by omega) (by omega)
      refine ⟨c :: x, xs, ?_, ?_⟩
      · rcases Lib.index_spec l crlf with ⟨e, _⟩ | ⟨i, e, _, _, _⟩
        · rw [splitK_miss e] at h1
          cases h1
          exact splitK_miss (by rw [index_cons, if_neg hc, if_pos e])
        · rw [splitK_hit e] at h1
          cases h1
          have hi : Lib.index (c :: l) crlf = ((i + 1 : Nat) : Int) := by
            rw [index_cons, if_neg hc, if_neg (by omega), e]
            simp
          rw [splitK_hit hi]
          rfl
      · rw [linesR, if_neg hc, h2]
        simp
theorem headLines_split (l : List UInt8) : headLines l = Lib.splitK crlf 0 l.length l := by
  obtain ⟨x, xs, h1, h2⟩ := linesR_split l.length l [] (l.length + 1) l.length (Nat.le_refl _) (by omega) (Nat.le_refl _)
  unfold headLines
  rw [h1, h2]
  simp
/-- As many cuts as there are ends are enough. -/
theorem splitK_count : ∀ (fuel : Nat) (l : List UInt8) (K : Nat), l.length < fuel → Lib.countFrom crlf fuel l ≤ K → Lib.splitK crlf 0 (Lib.countFrom crlf fuel l) l = Lib.splitK crlf 0 K l
  | 0, _, _, h, _ => absurd h (by omega)
  | fuel + 1, l, K, h, hK => by
    rcases Lib.index_spec l crlf with ⟨e, _⟩ | ⟨i, e, hi, _, _⟩
    · rw [splitK_miss e, splitK_miss e]
    · have e1 : Lib.countFrom crlf (fuel + 1) l = Lib.countFrom crlf fuel (l.drop (i + 2)) + 1 := by
        have : ¬ ((i : Int) = -1) := by omega
        simp [Lib.countFrom, e, this]
        omega
      rw [e1] at hK ⊢
      obtain ⟨M, rfl⟩ : ∃ M, K = M + 1 := ⟨K - 1, by omega⟩
      have hr := Lib.index_room l crlf (by omega)
      rw [e] at hr
      simp only [List.length_cons, List.length_nil] at hr
      rw [splitK_hit e, splitK_hit e, splitK_count fuel (l.drop (i + 2)) M (by rw [List.length_drop]; omega) (by omega)]
theorem countFrom_le : ∀ (fuel : Nat) (l : List UInt8), l.length < fuel → Lib.countFrom crlf fuel l ≤ l.length
  | 0, _, h => absurd h (by omega)
  | fuel + 1, l, h => by
    rcases Lib.index_spec l crlf with ⟨e, _⟩ | ⟨i, e, hi, _, _⟩
    · simp [Lib.countFrom, e]
    · have : ¬ ((i : Int) = -1) := by omega
      have hr := Lib.index_room l crlf (by omega)
      rw [e] at hr
      simp only [List.length_cons, List.length_nil] at hr
      have ih := countFrom_le fuel (l.drop (i + 2)) (by rw [List.length_drop]; omega)
      rw [List.length_drop] at ih
      simp [Lib.countFrom, e, this]
      omega
theorem split_lines (l : List UInt8) : Lib.splitK crlf 0 (Lib.count l crlf) l = headLines l := by
  rw [headLines_split]
  unfold Lib.count
  exact splitK_count _ _ _ (Nat.lt_succ_self _) (countFrom_le _ _ (Nat.lt_succ_self _))
end Go.Proofs.YtjlehlkkgkplmaaDoor
