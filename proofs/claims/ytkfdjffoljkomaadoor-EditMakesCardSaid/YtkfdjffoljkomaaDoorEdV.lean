/-
  Sizes: what 'few' and 'cut' leave is small, and so is what takes it back. No program here.
-/
import Derived.Test.YtkfdjffoljkomaaDoorEdU
set_option linter.unusedSimpArgs false
set_option linter.unusedVariables false
namespace Go.Proofs.YtkfdjffoljkomaaDoor
open Go.RowKit

def Ed.small (x : Ed) : Prop := -10000 ≤ x.pos ∧ x.pos ≤ 10000 ∧ -10000 ≤ x.n ∧ x.n ≤ 10000 ∧ x.s.size ≤ 300
def small (l : List Ed) : Prop := l.length ≤ 20 ∧ ∀ (k : Nat) (x : Ed), l[k]? = some x → x.small

theorem small_few (l : List Ed) : small (few l) := by
  refine ⟨by simp [few, fewTo]; omega, fun k x h => ?_⟩
  simp only [few, fewTo, List.getElem?_map, Option.map_eq_some_iff] at h
  obtain ⟨y, _, rfl⟩ := h
  simp only [Ed.small, few1, ByteArray.size_extract]
  refine ⟨by omega, by omega, by omega, by omega, ?_⟩
  exact Nat.le_trans (Nat.sub_le _ _) (Nat.le_trans (Nat.min_le_left _ _) (Nat.min_le_right _ _))

theorem small_mild {l : List Ed} (h : small l) : mild l := ⟨by have := h.1; omega, fun k x hk => by
  have := h.2 k x hk
  unfold Ed.small at this
  unfold Ed.mild
  omega⟩

theorem small_tail {x : Ed} {l : List Ed} (h : small (x :: l)) : x.small ∧ small l :=
  ⟨h.2 0 x rfl, by have := h.1; simp at this; omega, fun k y hk => h.2 (k + 1) y (by simpa using hk)⟩

theorem back_len (s : ByteArray) (l : List Ed) : ∀ d, (backL s d l).length = l.length := by
  induction l with
  | nil => intro d; rfl
  | cons x l ih => intro d; simp [backL, ih]

theorem back_mild (s : ByteArray) (hs : s.size ≤ 600) (l : List Ed) : ∀ (d : Int) (j : Nat), small l → l.length + j ≤ 20 → -(10300 * (j : Int)) ≤ d → d ≤ 10300 * (j : Int) → ∀ (k : Nat) (y : Ed), (backL s d l)[k]? = some y → y.mild := by
  induction l with
  | nil => intro d j _ _ _ _ k y h; simp [backL] at h
  | cons x l ih =>
    intro d j hsm hj h1 h2 k y h
    obtain ⟨hx, hl⟩ := small_tail hsm
    unfold Ed.small at hx
    simp only [List.length_cons] at hj
    cases k with
    | zero =>
      simp [backL] at h
      subst h
      have hz : (s.extract x.pos.toNat (x.pos + x.n).toNat).size ≤ s.size := by rw [ByteArray.size_extract]; omega
      simp only [Ed.mild, back1]
      omega
    | succ k =>
      exact ih (d + x.s.size - x.n) (j + 1) hl (by omega) (by omega) (by omega) k y (by simpa [backL] using h)

theorem mild_back {s : ByteArray} (hs : s.size ≤ 600) {l : List Ed} (h : small l) : mild (backL s 0 l) :=
  ⟨by rw [back_len]; have := h.1; omega, back_mild s hs l 0 0 h (by have := h.1; omega) (by omega) (by omega)⟩

theorem moved_small (p : Int) (l : List Ed) (h : small l) : moved p l ≤ 10300 * (l.length : Int) := by
  induction l with
  | nil => simp [moved]
  | cons x l ih =>
    obtain ⟨hx, hl⟩ := small_tail h
    have := ih hl
    unfold Ed.small at hx
    simp only [moved, moved1, List.length_cons]
    split <;> omega

theorem applied_small {s : ByteArray} (hs : s.size ≤ 600) {l : List Ed} (h : small l) (hr : right s.size 0 l = true) : (applied s l).size ≤ 300000 := by
  have h1 := (back_law s l hr).2.2.2
  have h2 := moved_small s.size l h
  have h3 := h.1
  omega

def cut (s : ByteArray) : ByteArray := s.extract 0 (min s.size 600)
theorem cut_small (s : ByteArray) : (cut s).size ≤ 600 := by
  simp only [cut, ByteArray.size_extract]
  exact Nat.le_trans (Nat.sub_le _ _) (Nat.le_trans (Nat.min_le_left _ _) (Nat.min_le_right _ _))

end Go.Proofs.YtkfdjffoljkomaaDoor
