/-
  Trees that join: when they do. Plainly.
-/
import Derived.Test.YtebejlnegalokaaGreatDoorPw1
set_option linter.unusedSimpArgs false
set_option linter.unusedVariables false
namespace Go.Proofs.YtebejlnegalokaaGreatDoor
open Go.RowKit
open Nz (Nd rightN joinN nodesOk kidsOk formOk kidsAll movedN bodyOf endsOf sizeOfT rightN_parts nodesOk_at nodeAt_some nodeAt)

theorem kidsOk_shift (n : Int) : ∀ (ks : List Int) (i last : Int), kidsOk (i + n) (last + n) (ks.map (· + n)) = kidsOk i last ks
  | [], _, _ => rfl
  | k :: ks, i, last => by
    have e1 : decide (last + n < k + n) = decide (last < k) := by congr 1; apply propext; omega
    have e2 : decide (k + n < i + n) = decide (k < i) := by congr 1; apply propext; omega
    simp only [List.map_cons, kidsOk, kidsOk_shift n ks, e1, e2]
theorem kidsOk_low : ∀ (ks : List Int) (i last last' : Int), last' ≤ last → kidsOk i last ks = true → kidsOk i last' ks = true
  | [], _, _, _, _, _ => rfl
  | k :: ks, i, last, last', h, hk => by
    simp only [kidsOk, Bool.and_eq_true, decide_eq_true_eq] at hk ⊢
    exact ⟨⟨by omega, hk.1.2⟩, hk.2⟩
theorem nodesOk_append : ∀ (a b : List Nd) (i : Int), nodesOk i (a ++ b) = (nodesOk i a && nodesOk (i + a.length) b)
  | [], b, i => by simp [nodesOk]
  | x :: a, b, i => by
    have e : i + 1 + (a.length : Int) = i + ((x :: a).length : Int) := by simp; omega
    simp only [List.cons_append, nodesOk, nodesOk_append a b, Bool.and_assoc, e]
theorem formOk_moved (n : Int) (x : Nd) : formOk { x with kids := x.kids.map (· + n) } = formOk x := by
  unfold formOk
  simp only [List.length_map]
theorem nodesOk_moved (n : Nat) : ∀ (t : List Nd) (i : Int), nodesOk i t = true → nodesOk (i + n) (movedN n t) = true
  | [], _, _ => rfl
  | x :: t, i, h => by
    simp only [nodesOk, Bool.and_eq_true] at h
    obtain ⟨⟨h1, h2⟩, h3⟩ := h
    have ih := nodesOk_moved n t (i + 1) h3
    have e : i + 1 + (n : Int) = i + n + 1 := by omega
    rw [e] at ih
    have hk : kidsOk (i + n) (-1) (x.kids.map (· + (n : Int))) = true := by
      apply kidsOk_low _ _ (-1 + (n : Int)) _ (by omega)
      rw [kidsOk_shift]
      exact h1
    show nodesOk (i + n) ({ x with kids := x.kids.map (· + (n : Int)) } :: movedN n t) = true
    simp only [nodesOk, Bool.and_eq_true]
    exact ⟨⟨hk, by rw [formOk_moved]; exact h2⟩, ih⟩
theorem kidsAll_append (a b : List Nd) : kidsAll (a ++ b) = kidsAll a ++ kidsAll b := by simp [kidsAll]
theorem kidsAll_moved (n : Int) (t : List Nd) : kidsAll (movedN n t) = (kidsAll t).map (· + n) := by
  unfold kidsAll movedN
  rw [List.flatMap_map, List.map_flatMap]
theorem count_shift (n j : Int) : ∀ (l : List Int), (l.map (· + n)).count j = l.count (j - n)
  | [] => rfl
  | x :: l => by
    have e : (x + n == j) = (x == j - n) := by
      rw [Bool.eq_iff_iff]
      simp only [beq_iff_eq]
      omega
    rw [List.map_cons, List.count_cons, List.count_cons, count_shift n j l, e]
theorem right_count {t : List Nd} (h : rightN t = true) (j : Int) : (kidsAll t).count j = if 0 ≤ j ∧ j < (t.length : Int) - 1 then 1 else 0 := by
  obtain ⟨h1, h2, hok, hc⟩ := rightN_parts h
  split
  · rename_i hj
    have := hc j.toNat (by omega)
    rw [show ((j.toNat : Nat) : Int) = j by omega] at this
    exact this
  · rename_i hj
    rw [List.count_eq_zero]
    intro hm
    unfold kidsAll at hm
    rw [List.mem_flatMap] at hm
    obtain ⟨x, hx, hk⟩ := hm
    obtain ⟨i, hi⟩ := List.getElem?_of_mem hx
    have hil : i < t.length := (List.getElem?_eq_some_iff.1 hi).1
    have := Nz.nodes_kid hok hil (k := j) (by rw [nodeAt_some hi]; exact hk)
    omega
theorem ends_count (j : Int) : ∀ (l : List (List Nd)) (n : Nat), (∀ t ∈ l, rightN t = true) → (kidsAll (bodyOf n l)).count j + (endsOf n l).count j = if (n : Int) ≤ j ∧ j < ((n + sizeOfT l : Nat) : Int) then 1 else 0
  | [], n, _ => by
    rw [if_neg (fun h => by simp [sizeOfT] at h; omega)]
    rfl
  | t :: l, n, h => by
    have ht := h t List.mem_cons_self
    obtain ⟨h1, h2, _, _⟩ := rightN_parts ht
    have ih := ends_count j l (n + t.length) (fun u hu => h u (List.mem_cons_of_mem _ hu))
    have hs : sizeOfT (t :: l) = t.length + sizeOfT l := by simp [sizeOfT]
    rw [hs]
    unfold bodyOf endsOf
    rw [kidsAll_append, List.count_append, kidsAll_moved, count_shift, right_count ht, List.count_cons]
    have e : ((((n + t.length : Nat) : Int) - 1) == j) = decide (((n + t.length : Nat) : Int) - 1 = j) := rfl
    rw [e]
    by_cases c1 : ((n + t.length : Nat) : Int) - 1 = j
    · have n1 : ¬ (0 ≤ j - (n : Int) ∧ j - (n : Int) < (t.length : Int) - 1) := by omega
      have n2 : ¬ (((n + t.length : Nat) : Int) ≤ j ∧ j < ((n + t.length + sizeOfT l : Nat) : Int)) := by omega
      rw [if_neg n2] at ih
      rw [if_neg n1, if_pos (show (n : Int) ≤ j ∧ j < ((n + (t.length + sizeOfT l) : Nat) : Int) by omega)]
      simp only [c1, decide_true, if_true]
      omega
    · simp only [c1, decide_false, Bool.false_eq_true, if_false, Nat.add_zero]
      by_cases c2 : 0 ≤ j - (n : Int) ∧ j - (n : Int) < (t.length : Int) - 1
      · rw [if_pos c2]
        rw [if_neg (by omega)] at ih
        rw [if_pos (by omega)]
        omega
      · rw [if_neg c2]
        by_cases c3 : ((n + t.length : Nat) : Int) ≤ j ∧ j < ((n + t.length + sizeOfT l : Nat) : Int)
        · rw [if_pos c3] at ih
          rw [if_pos (by omega)]
          omega
        · rw [if_neg c3] at ih
          rw [if_neg (by omega)]
          omega
theorem body_ok : ∀ (l : List (List Nd)) (n : Nat), (∀ t ∈ l, rightN t = true) → nodesOk n (bodyOf n l) = true
  | [], _, _ => rfl
  | t :: l, n, h => by
    have ht := h t List.mem_cons_self
    obtain ⟨_, _, hok, _⟩ := rightN_parts ht
    unfold bodyOf
    rw [nodesOk_append, Bool.and_eq_true]
    refine ⟨by have := nodesOk_moved n t 0 hok; rwa [Int.zero_add] at this, ?_⟩
    have e : ((n : Int) + ((movedN (n : Int) t).length : Int)) = ((n + t.length : Nat) : Int) := by rw [Nz.moved_len]; omega
    rw [e]
    exact body_ok l (n + t.length) (fun u hu => h u (List.mem_cons_of_mem _ hu))
theorem ends_ok : ∀ (l : List (List Nd)) (n : Nat) (last i : Int), (∀ t ∈ l, rightN t = true) → last < (n : Int) → ((n + sizeOfT l : Nat) : Int) ≤ i → kidsOk i last (endsOf n l) = true
  | [], _, _, _, _, _, _ => rfl
  | t :: l, n, last, i, h, h1, h2 => by
    have ht := h t List.mem_cons_self
    obtain ⟨r1, _, _, _⟩ := rightN_parts ht
    have hs : sizeOfT (t :: l) = t.length + sizeOfT l := by simp [sizeOfT]
    rw [hs] at h2
    unfold endsOf
    simp only [kidsOk, Bool.and_eq_true, decide_eq_true_eq]
    exact ⟨⟨by omega, by omega⟩, ends_ok l (n + t.length) _ i (fun u hu => h u (List.mem_cons_of_mem _ hu)) (by omega) (by omega)⟩
/-- Trees join, if the root's form is right, and there are not too many nodes. -/
theorem joins {kind : Int} {text : ByteArray} {l : List (List Nd)} (h : ∀ t ∈ l, rightN t = true) (hf : formOk ⟨kind, text, endsOf 0 l⟩ = true) (hs : sizeOfT l + 1 ≤ 400) : joinN kind text l = some (bodyOf 0 l ++ [⟨kind, text, endsOf 0 l⟩]) := by
  unfold joinN
  rw [Nz.joinGo_eq, if_pos (List.all_eq_true.2 h)]
  simp only [List.nil_append, List.length_nil]
  have hlen : (bodyOf 0 l ++ [(⟨kind, text, endsOf 0 l⟩ : Nd)]).length = sizeOfT l + 1 := by rw [List.length_append, Nz.body_length]; rfl
  have hr : rightN (bodyOf 0 l ++ [(⟨kind, text, endsOf 0 l⟩ : Nd)]) = true := by
    unfold rightN
    rw [hlen]
    simp only [Bool.and_eq_true, decide_eq_true_eq]
    refine ⟨⟨⟨?_, hs⟩, ?_⟩, ?_⟩
    · omega
    · have b := body_ok l 0 h
      rw [nodesOk_append, Bool.and_eq_true]
      refine ⟨b, ?_⟩
      rw [Nz.body_length]
      simp only [nodesOk, Bool.and_true, Bool.and_eq_true]
      exact ⟨ends_ok l 0 (-1) _ h (by omega) (by simp), hf⟩
    · rw [List.all_eq_true]
      intro j hj
      rw [List.mem_range] at hj
      have c := ends_count (j : Int) l 0 h
      rw [if_pos (by simp; omega)] at c
      rw [kidsAll_append, List.count_append]
      have e : kidsAll [(⟨kind, text, endsOf 0 l⟩ : Nd)] = endsOf 0 l := by simp [kidsAll]
      rw [e, c]
      rfl
  rw [if_pos hr]
end Go.Proofs.YtebejlnegalokaaGreatDoor
