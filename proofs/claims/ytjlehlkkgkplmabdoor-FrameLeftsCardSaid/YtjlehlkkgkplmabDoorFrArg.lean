/-
  The arguments of this seat: a slice of texts.
-/
import Derived.Test.YtjlehlkkgkplmabDoorChecked
import Derived.Test.YtjlehlkkgkplmabDoorFrX
import Derived.ChangeMaps5
import Derived.Deep.Slices
import Derived.WideShapes
set_option linter.unusedSimpArgs false
set_option linter.unusedVariables false
namespace Go.Proofs.YtjlehlkkgkplmabDoor
open Go.RowKit Go.WideShapes Go.ChangeShapes Go.Deep

theorem e_slice : Tryd.prog.underlying 22 = some (.slice 9) := by kernel_rfl
theorem e_string : Tryd.prog.underlying 9 = some .string := by kernel_rfl
theorem e_cstring : Tryd.prog.cellsOf 9 = 1 := by kernel_rfl
section
variable {H : Type} {enc : TypeId × Value → H} {w : World} {base : Nat} {sp : Nat → Bool} {held : Bool}
theorem choose_list {α : Type} (n : Nat) (p : Nat → α → Prop) (h : ∀ i, i < n → ∃ x, p i x) : ∃ l : List α, l.length = n ∧ ∀ (k : Nat) (x : α), l[k]? = some x → p k x := by
  induction n with
  | zero => exact ⟨[], rfl, fun k x hk => by simp at hk⟩
  | succ n ih =>
    obtain ⟨l, hl, hp⟩ := ih fun i hi => h i (by omega)
    obtain ⟨x, hx⟩ := h n (by omega)
    refine ⟨l ++ [x], by simp [hl], fun k y hk => ?_⟩
    rcases Nat.lt_or_ge k l.length with h1 | h1
    · rw [List.getElem?_append_left h1] at hk
      exact hp k y hk
    · rw [List.getElem?_append_right h1] at hk
      have : k - l.length = 0 := by
        have := (List.getElem?_eq_some_iff.1 hk).1
        simp at this
        omega
      rw [this] at hk
      simp at hk
      subst hk
      have : k = n := by omega
      subst this
      exact hx

set_option maxRecDepth 100000 in
theorem open_texts {r : Reach} {b0 : Nat} {v : Value} {d : DataW H} {ps : List MemPlace} (hval : Value.okWide Tryd.prog w r b0 22 v) (h : DataW.Trod enc Tryd.prog w base sp held 22 v d ps) :
    ∃ (A : Option Addr) (l : List ByteArray) (c : Nat), v = .slice A l.length c ∧ l.length ≤ c ∧ c ≤ maxLen ∧ (∀ (k : Nat) (x : ByteArray), l[k]? = some x → x.size ≤ maxLen) ∧ HoldsS w A l := by
  obtain ⟨a0, n0, c0, rfl⟩ := okWide_slice e_slice hval
  obtain ⟨fuel, hf⟩ := h
  rcases open_slice e_slice hf with ⟨hc, _⟩ | ⟨a, len, cap, m, n, D, Pl, hc, _, hl, hm, hmm, _, hall⟩
  · simp only [Value.cells, List.cons.injEq, and_true] at hc
    cases hc
    exact ⟨none, [], 0, rfl, by simp, by unfold maxLen; omega, fun k x hk => by simp at hk, HoldsS.nil _ _⟩
  · simp only [Value.cells, List.cons.injEq, and_true] at hc
    cases hc
    have hlm : n0 ≤ m := by rw [hmm]; split <;> omega
    obtain ⟨l, hll, hp⟩ := choose_list n0 (fun i (x : ByteArray) => w.cells? base (a.add (i * 1)) 1 = some [.string x] ∧ x.size ≤ maxLen) (fun i hi => by
      obtain ⟨cs', h1, h2⟩ := hall i (by omega)
      obtain ⟨s, rfl, _, hz⟩ := DataW.trod_string e_string h2
      rw [e_cstring] at h1
      exact ⟨s, h1, hz⟩)
    refine ⟨some a, l, c0, by rw [hll], by omega, hm, fun k x hk => (hp k x hk).2, fun k x hk => ?_⟩
    have e0 := (World.cells?_some (hp k x hk).1).2.2 0 (by omega)
    obtain ⟨_, spot, hs⟩ : ∃ sp, sp = a.spot ∧ sp = none := by
      have hfirst : ∃ y, l[0]? = some y := ⟨l[0]'(by have := (List.getElem?_eq_some_iff.1 hk).1; omega), List.getElem?_eq_getElem _⟩
      obtain ⟨y, hy⟩ := hfirst
      have g := (World.cells?_some (hp 0 y hy).1).2.2 0 (by omega)
      refine ⟨_, rfl, ?_⟩
      cases hsp : a.spot with
      | none => rfl
      | some z =>
        exfalso
        simp [Addr.add, World.cell?, hsp] at g
        split at g <;> simp at g
    obtain ⟨ab, ao, at'⟩ := a
    simp only at spot
    subst hs
    subst spot
    rw [add_add] at e0
    have hadd : ∀ j, (⟨ab, ao, none⟩ : Addr).add j = ⟨ab, ao + j, none⟩ := fun j => by
      unfold Addr.add
      split <;> simp_all
    rw [hadd] at e0
    exact ⟨ab, ao, rfl, by simpa using e0⟩
end
end Go.Proofs.YtjlehlkkgkplmabDoor
