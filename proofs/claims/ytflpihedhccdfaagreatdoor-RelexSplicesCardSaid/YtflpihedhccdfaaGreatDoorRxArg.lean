/-
  The arguments of this seat: a slice of splices.
-/
import Derived.Test.YtflpihedhccdfaaGreatDoorChecked
import Derived.Test.YtflpihedhccdfaaGreatDoorRw7
import Derived.ChangeMaps5
import Derived.Deep.Slices
import Derived.WideShapes
set_option linter.unusedSimpArgs false
set_option linter.unusedVariables false
namespace Go.Proofs.YtflpihedhccdfaaGreatDoor
open Go.RowKit Go.WideShapes Go.ChangeShapes Go.Deep

theorem e_slice : Tryz.prog.underlying 38 = some (.slice 41) := by kernel_rfl
theorem e_cells : Tryz.prog.cellsOf 41 = 3 := by kernel_rfl
theorem e_int : Tryz.prog.underlying 3 = some (.int .i64) := by kernel_rfl
theorem e_string : Tryz.prog.underlying 9 = some .string := by kernel_rfl
theorem e_cint : Tryz.prog.cellsOf 3 = 1 := by kernel_rfl
theorem e_cstring : Tryz.prog.cellsOf 9 = 1 := by kernel_rfl
theorem e_struct : ∃ fs : Array Field, Tryz.prog.underlying 41 = some (.struct fs) ∧ fs.map (fun f => (f.type, f.offset)) = #[(3, 0), (3, 1), (9, 2)] :=
  ⟨_, Tryz.underlying41, by simp⟩

theorem field_of {fs : Array Field} {l : Array (TypeId × Nat)} (h : fs.map (fun f => (f.type, f.offset)) = l) (j : Nat) (x : TypeId × Nat) (hx : l[j]? = some x) : ∃ f : Field, fs[j]? = some f ∧ f.type = x.1 ∧ f.offset = x.2 := by
  subst h
  rw [Array.getElem?_map] at hx
  cases hf : fs[j]? with
  | none => rw [hf] at hx; cases hx
  | some f =>
    rw [hf] at hx
    cases Option.some.inj hx
    exact ⟨f, rfl, rfl, rfl⟩

section
variable {H : Type} {enc : TypeId × Value → H} {w : World} {base : Nat} {sp : Nat → Bool} {held : Bool}

set_option maxRecDepth 100000 in
/-- One edit, read from its three cells. -/
theorem open_act {fuel : Nat} {cs : List Value} {x : DataW H × List MemPlace} (h : DataW.trod enc Tryz.prog w base sp held fuel 41 cs = some x) : ∃ e : Act5, cs = e.cells ∧ e.s.size ≤ maxLen ∧ (-9223372036854775808 ≤ e.n ∧ e.n ≤ 9223372036854775807) := by
  obtain ⟨fs, hs, hm⟩ := e_struct
  obtain ⟨xs, n, _, _, hlen, _, hf⟩ := DataW.trod_struct hs h
  obtain ⟨f0, g0, t0, o0⟩ := field_of hm 0 (3, 0) rfl
  obtain ⟨f1, g1, t1, o1⟩ := field_of hm 1 (3, 1) rfl
  obtain ⟨f2, g2, t2, o2⟩ := field_of hm 2 (9, 2) rfl
  simp only at t0 o0 t1 o1 t2 o2
  have h0 := hf 0 f0 g0
  have h1 := hf 1 f1 g1
  have h2 := hf 2 f2 g2
  have hx : xs.length = 3 := by
    have : fs.size = 3 := by have := congrArg Array.size hm; simpa using this
    omega
  rw [e_cells] at hlen
  match xs, hx, cs, hlen with
  | [y0, y1, y2], _, [v0, v1, v2], _ =>
    rw [t0, o0, e_cint] at h0
    rw [t1, o1, e_cint] at h1
    rw [t2, o2, e_cstring] at h2
    obtain ⟨n0, c0, _, _⟩ := DataW.trod_int e_int (h0.trans rfl : _ = some y0)
    obtain ⟨n1, c1, _, hwf⟩ := DataW.trod_int e_int (h1.trans rfl : _ = some y1)
    obtain ⟨s2, c2, _, hz⟩ := DataW.trod_string e_string (h2.trans rfl : _ = some y2)
    obtain rfl : v0 = .int .i64 n0 := (List.cons.inj c0).1
    obtain rfl : v1 = .int .i64 n1 := (List.cons.inj c1).1
    obtain rfl : v2 = .string s2 := (List.cons.inj c2).1
    simp only [Lit.wf, IntKind.min, IntKind.max, IntKind.signed, IntKind.bits, Bool.and_eq_true, decide_eq_true_eq, if_true] at hwf
    exact ⟨⟨n0, n1, s2⟩, rfl, hz, by show -9223372036854775808 ≤ n1 ∧ n1 ≤ 9223372036854775807; omega⟩

theorem choose_list {α : Type} (n : Nat) (p : Nat → α → Prop) (h : ∀ i, i < n → ∃ x, p i x) : ∃ l : List α, l.length = n ∧ ∀ (k : Nat) (x : α), l[k]? = some x → p k x := by
  induction n with
  | zero => exact ⟨[], rfl, fun k x hk => by simp at hk⟩
  | succ n ih =>
    obtain ⟨l, hl, hp⟩ := ih fun i hi => h i (by omega)
    obtain ⟨x, hx⟩ := h n (by omega)
    refine ⟨l ++ [x], by simp [hl], fun k y hk => ?_⟩
    rcases Nat.lt_or_ge k l.length with h1 | h1
    · rw [List.getElem?_append_left h1] at hk
      exact hp k y hk
    · rw [List.getElem?_append_right h1] at hk
      have : k - l.length = 0 := by
        have := (List.getElem?_eq_some_iff.1 hk).1
        simp at this
        omega
      rw [this] at hk
      simp at hk
      subst hk
      have : k = n := by omega
      subst this
      exact hx

set_option maxRecDepth 100000 in
theorem open_acts {r : Reach} {b0 : Nat} {v : Value} {d : DataW H} {ps : List MemPlace} (hval : Value.okWide Tryz.prog w r b0 38 v) (h : DataW.Trod enc Tryz.prog w base sp held 38 v d ps) :
    ∃ (A : Option Addr) (l : List Act5) (c : Nat), v = .slice A l.length c ∧ l.length ≤ c ∧ c ≤ maxLen ∧ (∀ (k : Nat) (x : Act5), l[k]? = some x → x.s.size ≤ maxLen ∧ (-9223372036854775808 ≤ x.n ∧ x.n ≤ 9223372036854775807)) ∧ HoldsC w A l := by
  obtain ⟨a0, n0, c0, rfl⟩ := okWide_slice e_slice hval
  obtain ⟨fuel, hf⟩ := h
  rcases open_slice e_slice hf with ⟨hc, _⟩ | ⟨a, len, cap, m, n, D, Pl, hc, _, hl, hm, hmm, _, hall⟩
  · simp only [Value.cells, List.cons.injEq, and_true] at hc
    cases hc
    exact ⟨none, [], 0, rfl, by simp, by unfold maxLen; omega, fun k x hk => by simp at hk, HoldsC.nil _ _⟩
  · simp only [Value.cells, List.cons.injEq, and_true] at hc
    cases hc
    have hlm : n0 ≤ m := by rw [hmm]; split <;> omega
    obtain ⟨l, hll, hp⟩ := choose_list n0 (fun i (x : Act5) => w.cells? base (a.add (i * 3)) 3 = some x.cells ∧ x.s.size ≤ maxLen ∧ (-9223372036854775808 ≤ x.n ∧ x.n ≤ 9223372036854775807)) (fun i hi => by
      obtain ⟨cs', h1, h2⟩ := hall i (by omega)
      obtain ⟨e, rfl, hz⟩ := open_act h2
      rw [e_cells] at h1
      exact ⟨e, h1, hz⟩)
    refine ⟨some a, l, c0, by rw [hll], by omega, hm, fun k x hk => (hp k x hk).2, fun k x hk => ?_⟩
    have h1 := (World.cells?_some (hp k x hk).1).2.2
    have e0 := h1 0 (by omega)
    have e1 := h1 1 (by omega)
    have e2 := h1 2 (by omega)
    obtain ⟨_, spot, hs⟩ : ∃ sp, sp = a.spot ∧ sp = none := by
      have hfirst : ∃ y, l[0]? = some y := ⟨l[0]'(by have := (List.getElem?_eq_some_iff.1 hk).1; omega), List.getElem?_eq_getElem _⟩
      obtain ⟨y, hy⟩ := hfirst
      have g := (World.cells?_some (hp 0 y hy).1).2.2 0 (by omega)
      refine ⟨_, rfl, ?_⟩
      cases hsp : a.spot with
      | none => rfl
      | some z =>
        exfalso
        simp [Addr.add, World.cell?, hsp, Act5.cells] at g
        split at g <;> simp at g
    obtain ⟨ab, ao, at'⟩ := a
    simp only at spot
    subst hs
    subst spot
    rw [add_add] at e0 e1 e2
    have hadd : ∀ j, (⟨ab, ao, none⟩ : Addr).add j = ⟨ab, ao + j, none⟩ := fun j => by
      unfold Addr.add
      split <;> simp_all
    rw [hadd] at e0 e1 e2
    exact ⟨ab, ao, rfl, by simpa [Act5.cells] using e0, by simpa [Act5.cells, Nat.add_assoc] using e1, by simpa [Act5.cells, Nat.add_assoc] using e2⟩
end
end Go.Proofs.YtflpihedhccdfaaGreatDoor
