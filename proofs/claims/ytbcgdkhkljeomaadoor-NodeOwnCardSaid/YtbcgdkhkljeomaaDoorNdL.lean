/-
  A show is not long. No program here.
-/
import Derived.Test.YtbcgdkhkljeomaaDoorProg
import Derived.Test.YtbcgdkhkljeomaaDoorReg
import Derived.WalkKit
import Derived.WalkSpells
import Derived.WalkLawsBesides
import Derived.Lib.Hide
import Derived.Lib.MinMax
import Derived.Deep.QuietTactic
import Derived.BigQuiet
import Derived.OwnWalk
import Derived.Deep.AppendLies
import Derived.KernelRfl
import Derived.Test.YtbcgdkhkljeomaaDoorNdX
import Derived.Test.YtbcgdkhkljeomaaDoorNdE
set_option linter.unusedSimpArgs false
set_option linter.unusedVariables false
namespace Go.Proofs.YtbcgdkhkljeomaaDoor
open Go.RowKit Go.Shelf

/-! ### By so many steps: the steps do not matter -/
theorem nodes_kid {t : List Nd} (h : nodesOk 0 t = true) {i : Nat} {k : Int} (hi : i < t.length) (hk : k ∈ (nodeAt t i).kids) : 0 ≤ k ∧ k < (i : Int) := by
  have h1 := List.getElem?_eq_getElem hi
  have h2 := (nodesOk_at h h1).1
  rw [nodeAt_some h1] at hk
  have h3 := kidsOk_mem h2 k hk
  omega
theorem flat_congr {α β : Type} {l : List α} {f g : α → List β} (h : ∀ x ∈ l, f x = g x) : l.flatMap f = l.flatMap g := by
  induction l with
  | nil => rfl
  | cons x l ih => rw [List.flatMap_cons, List.flatMap_cons, h x List.mem_cons_self, ih (fun y hy => h y (List.mem_cons_of_mem _ hy))]
theorem showF_more {t : List Nd} (h : nodesOk 0 t = true) : ∀ (n f i : Nat), i < n → i < f → i < t.length → showF t f i = showAt t i
  | 0, _, i, h1, _, _ => by omega
  | n + 1, f, i, h1, h2, h3 => by
    obtain ⟨f, rfl⟩ : ∃ f', f = f' + 1 := ⟨f - 1, by omega⟩
    unfold showAt showF
    have hc : (nodeAt t i).kids.flatMap (fun k => 32 :: showF t f k.toNat) = (nodeAt t i).kids.flatMap (fun k => 32 :: showF t i k.toNat) := flat_congr (fun k hk => by
      have := nodes_kid h h3 hk
      rw [showF_more h n f k.toNat (by omega) (by omega) (by omega), showF_more h n i k.toNat (by omega) (by omega) (by omega)])
    simp only [hc]
theorem showAt_eq {t : List Nd} (h : nodesOk 0 t = true) {i : Nat} (hi : i < t.length) {x : Nd} (hx : t[i]? = some x) : showAt t i =
    if x.kids = [] then digitsOf x.kind ++ 58 :: wordOf x.text.data.toList else 40 :: ((digitsOf x.kind ++ 58 :: wordOf x.text.data.toList) ++ x.kids.flatMap (fun k => 32 :: showAt t k.toNat) ++ [41]) := by
  have hc : (nodeAt t i).kids.flatMap (fun k => 32 :: showF t i k.toNat) = (nodeAt t i).kids.flatMap (fun k => 32 :: showAt t k.toNat) := flat_congr (fun k hk => by
    have := nodes_kid h hi hk
    rw [showF_more h i i k.toNat (by omega) (by omega) (by omega)])
  have h9 : showAt t i = showF t (i + 1) i := rfl
  rw [h9]
  unfold showF
  rw [nodeAt_some hx] at hc ⊢
  simp only [hc]
theorem kind_range {x : Nd} (h : formOk x = true) : ∃ n : Nat, x.kind = (n : Int) ∧ 1 ≤ n ∧ n ≤ 14 := by
  have h1 : formAt x.kind ≠ none := by
    intro e
    unfold formOk at h
    rw [e] at h
    cases h
  by_cases hr : 1 ≤ x.kind ∧ x.kind ≤ 14
  · exact ⟨x.kind.toNat, by omega, by omega, by omega⟩
  · exfalso
    apply h1
    unfold formAt
    repeat rw [if_neg (by omega)]

/-- Bytes as a text. -/
def strB (l : List UInt8) : ByteArray := ⟨l.toArray⟩
theorem strB_app (a b : List UInt8) : strB a ++ strB b = strB (a ++ b) := bytes_eq (by rw [bytes_app]; rfl)

theorem strB_size (l : List UInt8) : (strB l).size = l.length := rfl

def sumBy (f : Nat → Nat) : Nat → Nat
  | 0 => 0
  | m + 1 => sumBy f m + f m
theorem sumBy_le {f g : Nat → Nat} : ∀ (m : Nat), (∀ j, j < m → f j ≤ g j) → sumBy f m ≤ sumBy g m
  | 0, _ => Nat.le_refl _
  | m + 1, h => Nat.add_le_add (sumBy_le m (fun j hj => h j (by omega))) (h m (by omega))
theorem sumBy_const (c : Nat) : ∀ (m : Nat), sumBy (fun _ => c) m = m * c
  | 0 => by simp [sumBy]
  | m + 1 => by rw [sumBy, sumBy_const c m, Nat.succ_mul]
theorem sumBy_add (f g : Nat → Nat) : ∀ (m : Nat), sumBy (fun j => f j + g j) m = sumBy f m + sumBy g m
  | 0 => rfl
  | m + 1 => by simp only [sumBy, sumBy_add f g m]; omega
theorem sumBy_congr {f g : Nat → Nat} : ∀ (m : Nat), (∀ j, j < m → f j = g j) → sumBy f m = sumBy g m
  | 0, _ => rfl
  | m + 1, h => by rw [sumBy, sumBy, sumBy_congr m (fun j hj => h j (by omega)), h m (by omega)]
theorem sumBy_pick (k v : Nat) : ∀ (m : Nat), sumBy (fun j => if j = k then v else 0) m = if k < m then v else 0
  | 0 => by simp [sumBy]
  | m + 1 => by
    rw [sumBy, sumBy_pick k v m]
    by_cases h : m = k
    · subst h; simp
    · rw [if_neg h]
      by_cases h2 : k < m
      · rw [if_pos h2, if_pos (by omega)]; omega
      · rw [if_neg h2, if_neg (by omega)]
theorem sum_list (f : Nat → Nat) (m : Nat) : ∀ (L : List Int), (∀ k ∈ L, 0 ≤ k ∧ k < (m : Int)) → (L.map fun k => f k.toNat).sum = sumBy (fun j => L.count (j : Int) * f j) m
  | [], _ => by
    have e : sumBy (fun j => List.count (j : Int) ([] : List Int) * f j) m = sumBy (fun _ => 0) m := sumBy_congr m (fun j _ => by rw [List.count_nil, Nat.zero_mul])
    rw [e, sumBy_const]
    rfl
  | k :: L, h => by
    rw [List.map_cons, List.sum_cons, sum_list f m L (fun x hx => h x (List.mem_cons_of_mem _ hx))]
    obtain ⟨h0, h1⟩ := h k List.mem_cons_self
    have e : sumBy (fun j => (k :: L).count (j : Int) * f j) m = sumBy (fun j => (if j = k.toNat then f k.toNat else 0) + L.count (j : Int) * f j) m := sumBy_congr m (fun j _ => by
      rw [List.count_cons]
      by_cases hj : j = k.toNat
      · have : k = (j : Int) := by omega
        subst hj
        rw [if_pos (beq_iff_eq.2 this), if_pos rfl, Nat.add_mul, Nat.one_mul, Nat.add_comm]
      · have : ¬ k = (j : Int) := by omega
        rw [if_neg (fun e => this (beq_iff_eq.1 e)), if_neg hj, Nat.add_zero, Nat.zero_add])
    rw [e, sumBy_add, sumBy_pick, if_pos (by omega)]
theorem sumBy_free {c f : Nat → Nat} {i : Nat} : ∀ (m : Nat), i < m → (∀ j, j < m → c j ≤ 1) → c i = 0 → sumBy (fun j => c j * f j) m + f i ≤ sumBy f m
  | 0, h, _, _ => by omega
  | m + 1, h, hc, h0 => by
    simp only [sumBy]
    by_cases hm : i = m
    · subst hm
      rw [h0]
      have : sumBy (fun j => c j * f j) i ≤ sumBy f i := sumBy_le i (fun j hj => by
        have := hc j (by omega)
        calc c j * f j ≤ 1 * f j := Nat.mul_le_mul_right _ this
          _ = f j := Nat.one_mul _)
      omega
    · have h1 := sumBy_free m (by omega) (fun j hj => hc j (by omega)) h0 (f := f)
      have h2 : c m * f m ≤ f m := by
        have := hc m (by omega)
        calc c m * f m ≤ 1 * f m := Nat.mul_le_mul_right _ this
          _ = f m := Nat.one_mul _
      omega
/-- What a node's own show has, at most. -/
def ownLen (x : Nd) : Nat := 5 + (wordOf x.text.data.toList).length + x.kids.length
theorem digits_len (n : Int) : (digitsOf n).length ≤ 2 := by
  unfold digitsOf
  split
  · exact Nat.le_refl 2
  · exact Nat.le_succ 1
theorem flat_len (f : Int → List UInt8) : ∀ (L : List Int), (L.flatMap fun k => 32 :: f k).length = L.length + (L.map fun k => (f k).length).sum
  | [] => rfl
  | k :: L => by rw [List.flatMap_cons, List.length_append, flat_len f L, List.map_cons, List.sum_cons, List.length_cons, List.length_cons]; omega
theorem showAt_len {t : List Nd} (h : nodesOk 0 t = true) {i : Nat} (hi : i < t.length) {x : Nd} (hx : t[i]? = some x) : (showAt t i).length ≤ ownLen x + (x.kids.map fun k => (showAt t k.toNat).length).sum := by
  rw [showAt_eq h hi hx]
  have := digits_len x.kind
  unfold ownLen
  split
  · simp only [List.length_append, List.length_cons]
    omega
  · simp only [List.length_cons, List.length_append, flat_len, List.length_nil]
    omega
theorem kidsAll_one (x : Nd) : kidsAll [x] = x.kids := by simp [kidsAll]
theorem shows_sum {t : List Nd} (h : nodesOk 0 t = true) : ∀ (m : Nat), m ≤ t.length → sumBy (fun j => (showAt t j).length) m ≤ ((kidsAll (t.take m)).map fun k => (showAt t k.toNat).length).sum + sumBy (fun j => ownLen (nodeAt t j)) m
  | 0, _ => by simp [sumBy]
  | m + 1, hm => by
    have hlt : m < t.length := by omega
    have g := List.getElem?_eq_getElem hlt
    have h1 := shows_sum h m (by omega)
    have h2 := showAt_len h hlt g
    rw [take_one g, kidsAll_app, kidsAll_one, List.map_append, List.sum_append]
    simp only [sumBy]
    rw [nodeAt_some g]
    omega
theorem show_small {t : List Nd} (hr : rightN t = true) (hI : IntN t) {i : Nat} (hi : i < t.length) : (showAt t i).length ≤ 1204000000 := by
  obtain ⟨r1, r2, hok, hc⟩ := rightN_parts hr
  have h1 := shows_sum hok (i + 1) (by omega)
  have hmem : ∀ k ∈ kidsAll (t.take (i + 1)), 0 ≤ k ∧ k < (i : Int) := by
    intro k hk
    simp only [kidsAll, List.mem_flatMap] at hk
    obtain ⟨x, hx, hk⟩ := hk
    obtain ⟨j, hj⟩ := List.getElem?_of_mem hx
    have hj1 : j < i + 1 := by
      rcases Nat.lt_or_ge j (i + 1) with h | h
      · exact h
      · rw [List.getElem?_take, if_neg (by omega)] at hj; cases hj
    rw [List.getElem?_take, if_pos hj1] at hj
    have := nodes_kid hok (i := j) (k := k) (by omega) (by rw [nodeAt_some hj]; exact hk)
    omega
  rw [sum_list (fun j => (showAt t j).length) (i + 1) _ (fun k hk => by have := hmem k hk; omega)] at h1
  have h2 := sumBy_free (c := fun j => (kidsAll (t.take (i + 1))).count (j : Int)) (f := fun j => (showAt t j).length) (i := i) (i + 1) (by omega)
    (fun j hj => by
      by_cases hji : j = i
      · subst hji
        show List.count (j : Int) (kidsAll (t.take (j + 1))) ≤ 1
        rw [List.count_eq_zero_of_not_mem (fun hm => by have := hmem _ hm; omega)]
        omega
      · have h3 := hc j (by omega)
        have h4 : kidsAll t = kidsAll (t.take (i + 1)) ++ kidsAll (t.drop (i + 1)) := by rw [← kidsAll_app, List.take_append_drop]
        rw [h4, List.count_append] at h3
        show List.count (j : Int) (kidsAll (t.take (i + 1))) ≤ 1
        omega)
    (List.count_eq_zero_of_not_mem (fun hm => by have := hmem _ hm; omega))
  have h3 : sumBy (fun j => ownLen (nodeAt t j)) (i + 1) ≤ sumBy (fun _ => 3001005) (i + 1) := sumBy_le _ (fun j hj => by
    have hlt : j < t.length := by omega
    rw [nodeAt_some (List.getElem?_eq_getElem hlt)]
    obtain ⟨_, z2, z3, _⟩ := hI _ (List.getElem_mem hlt)
    have z4 := wordOf_len (t[j]).text.data.toList
    rw [bytes_len] at z4
    unfold ownLen
    omega)
  rw [sumBy_const] at h3
  have h4 : (i + 1) * 3001005 ≤ 400 * 3001005 := Nat.mul_le_mul_right _ (by omega)
  omega
end Go.Proofs.YtbcgdkhkljeomaaDoor
