/-
  Brackets, plainly: partners lie as deep, what is between lies deeper, and matches alone. No program here.
-/
import Derived.Test.YtlokkdbgihbnhabDoorGrpP
set_option linter.unusedSimpArgs false
set_option linter.unusedVariables false
namespace Go.Proofs.YtlokkdbgihbnhabDoor
open Go.RowKit

/-- The depth, the partner at a place. -/
def Brs.dp (s : Brs) (k : Nat) : Nat := s.deeps.getD k 0
def Brs.pr (s : Brs) (k : Nat) : Int := s.pairs.getD k (-1)

/-- a and b are partners in l: as deep, what is between deeper, and it matches alone. -/
def Paird (l : List (Option (Bool × Bool))) (s : Brs) (a b : Nat) : Prop :=
  s.dp a = s.dp b ∧ (∀ k, a < k → k < b → s.dp a < s.dp k) ∧ ∃ l1 mid l3 x y, l = l1 ++ x :: mid ++ y :: l3 ∧ l1.length = a ∧ a + 1 + mid.length = b ∧ ∃ t, Brs.none0.run mid = some t ∧ t.stack = [] ∧ t.most ≤ s.most

/-- The open bracket q of the kind b over r, in l: what came behind it matches so far. -/
def Opend (l : List (Option (Bool × Bool))) (s : Brs) (q : Nat) (b : Bool) (r : List (Nat × Bool)) : Prop :=
  s.dp q = r.length ∧ s.pr q = -1 ∧ ∃ l1 mid P D M t, l = l1 ++ some (true, b) :: mid ∧ l1.length = q ∧ Brs.none0.run mid = some t ∧ Brs.Over (q + 1) ((q, b) :: r) P D M t s ∧ D.length = q + 1

structure Brs.Fine (l : List (Option (Bool × Bool))) (s : Brs) : Prop where
  len : s.pairs.length = l.length
  lenD : s.deeps.length = l.length
  most : s.stack.length ≤ s.most
  stk : ∀ u q b r, s.stack = u ++ (q, b) :: r → Opend l s q b r
  prs : ∀ i, i < l.length → s.pr i = -1 ∨ ∃ j : Nat, s.pr i = j ∧ j < l.length ∧ j ≠ i ∧ s.pr j = i ∧ Paird l s (min i j) (max i j)

theorem Brs.Fine.none0 : Brs.Fine [] .none0 :=
  ⟨rfl, rfl, Nat.le_refl _, fun u q b r h => by cases u <;> simp [Brs.none0] at h, fun i hi => by simp at hi⟩

/-- Behind an open bracket all lies deeper. -/
theorem Opend.deeper {l : List (Option (Bool × Bool))} {s : Brs} {q : Nat} {b : Bool} {r : List (Nat × Bool)} (h : Opend l s q b r) (hl : s.deeps.length = l.length) {k : Nat} (h1 : q < k) (h2 : k < l.length) : r.length < s.dp k := by
  obtain ⟨_, _, l1, mid, P, D, M, t, _, _, _, ho, hD⟩ := h
  have e := ho.deeps
  unfold Brs.dp
  rw [e, List.getD_eq_getElem?_getD, List.getElem?_append_right (by omega)]
  rw [hl.symm, e] at h2
  simp only [List.length_append, List.length_map] at h2
  have h3 : k - D.length < t.deeps.length := by omega
  simp [h3]
  omega

theorem getD_set (l : List Int) (q n : Nat) (v : Int) (hq : q < l.length) : (l.set q v).getD n (-1) = if n = q then v else l.getD n (-1) := by
  simp only [List.getD_eq_getElem?_getD, List.getElem?_set]
  by_cases h : q = n
  · subst h; simp [hq]
  · rw [if_neg h, if_neg (fun e => h e.symm)]

theorem getD_snoc {α : Type} (l : List α) (x d : α) (n : Nat) : (l ++ [x]).getD n d = if n < l.length then l.getD n d else if n = l.length then x else d := by
  simp only [List.getD_eq_getElem?_getD]
  by_cases h : n < l.length
  · simp [h, List.getElem?_append_left h]
  · rw [if_neg h]
    by_cases h2 : n = l.length
    · subst h2; simp
    · rw [if_neg h2, List.getElem?_eq_none (by simp; omega)]
      rfl

theorem getD_left {α : Type} (A B : List α) (d : α) {n : Nat} (h : n < A.length) : (A ++ B).getD n d = A.getD n d := by
  simp only [List.getD_eq_getElem?_getD, List.getElem?_append_left h]

theorem Opend.step {l : List (Option (Bool × Bool))} {s t : Brs} {q : Nat} {b : Bool} {r : List (Nat × Bool)} {x : Option (Bool × Bool)} (h : Opend l s q b r) (ht : s.step x = some t) (hlow : r.length + 1 ≤ t.stack.length) : Opend (l ++ [x]) t q b r := by
  obtain ⟨h1, h2, l1, mid, P, D, M, m, hl, hq, hm, ho, hD⟩ := h
  obtain ⟨m', e1, e2⟩ := ho.back x ht (by simpa using hlow)
  have hP := ho.len
  have hrun : Brs.none0.run (mid ++ [x]) = some m' := by rw [Brs.run_append, hm, Option.bind_some, Brs.run_one]; exact e1
  refine ⟨?_, ?_, l1, mid ++ [x], P, D, M, m', by simp [hl], hq, hrun, e2, hD⟩
  · unfold Brs.dp at *
    rw [ho.deeps, getD_left _ _ _ (by omega)] at h1
    rw [e2.deeps, getD_left _ _ _ (by omega)]
    exact h1
  · unfold Brs.pr at *
    rw [ho.pairs, getD_left _ _ _ (by omega)] at h2
    rw [e2.pairs, getD_left _ _ _ (by omega)]
    exact h2

theorem Paird.more {l : List (Option (Bool × Bool))} {s t : Brs} {a b : Nat} {x : Option (Bool × Bool)} (h : Paird l s a b) (hb : b < l.length) (ha : a < l.length) (hd : ∀ k, k < l.length → t.dp k = s.dp k) (hm : s.most ≤ t.most) : Paird (l ++ [x]) t a b := by
  obtain ⟨h1, h2, l1, mid, l3, y, z, hl, e1, e2, m, hr, hs, hmm⟩ := h
  refine ⟨by rw [hd a ha, hd b hb, h1], fun k hk1 hk2 => by rw [hd a ha, hd k (by omega)]; exact h2 k hk1 hk2, l1, mid, l3 ++ [x], y, z, by rw [hl]; simp, e1, e2, m, hr, hs, by omega⟩

theorem Brs.Fine.step {l : List (Option (Bool × Bool))} {s t : Brs} (h : Brs.Fine l s) (x : Option (Bool × Bool)) (ht : s.step x = some t) : Brs.Fine (l ++ [x]) t := by
  obtain ⟨hlen, hlenD, hmost, hstk, hprs⟩ := h
  have ln : ∀ {n : Nat}, n < (l ++ [x]).length → n < l.length ∨ n = l.length := fun h => by simp at h; omega
  match x, ht with
  | none, ht =>
    simp only [Brs.step, Option.some.injEq] at ht
    subst ht
    have hd : ∀ k, k < l.length → Brs.dp ⟨s.stack, s.pairs ++ [-1], s.deeps ++ [s.stack.length], s.most⟩ k = s.dp k := fun k hk => by unfold Brs.dp; exact getD_left _ _ _ (by omega)
    have hp : ∀ k, k < l.length → Brs.pr ⟨s.stack, s.pairs ++ [-1], s.deeps ++ [s.stack.length], s.most⟩ k = s.pr k := fun k hk => by unfold Brs.pr; exact getD_left _ _ _ (by omega)
    refine ⟨by simp [hlen], by simp [hlenD], hmost, fun u q b r hs => (hstk u q b r hs).step rfl (by simp [show s.stack = _ from hs]), fun i hi => ?_⟩
    rcases ln hi with hi | rfl
    · rcases hprs i hi with e | ⟨j, e1, e2, e3, e4, e5⟩
      · exact Or.inl ((hp i hi).trans e)
      · exact Or.inr ⟨j, (hp i hi).trans e1, by simp; omega, e3, (hp j e2).trans e4, e5.more (by omega) (by omega) hd (Nat.le_refl _)⟩
    · left
      unfold Brs.pr
      simp [← hlen]
  | some (true, b), ht =>
    simp only [Brs.step, Option.some.injEq] at ht
    have hst : s.step (some (true, b)) = some t := by simp only [Brs.step]; rw [ht]
    have tS : t.stack = (s.pairs.length, b) :: s.stack := by rw [← ht]
    have tP : t.pairs = s.pairs ++ [-1] := by rw [← ht]
    have tD : t.deeps = s.deeps ++ [s.stack.length] := by rw [← ht]
    have tM : t.most = max s.most (s.stack.length + 1) := by rw [← ht]
    clear ht
    have hd : ∀ k, k < l.length → t.dp k = s.dp k := fun k hk => by unfold Brs.dp; rw [tD]; exact getD_left _ _ _ (by omega)
    have hp : ∀ k, k < l.length → t.pr k = s.pr k := fun k hk => by unfold Brs.pr; rw [tP]; exact getD_left _ _ _ (by omega)
    refine ⟨by simp [tP, hlen], by simp [tD, hlenD], by rw [tS, tM]; simp; omega, fun u q c r hs => ?_, fun i hi => ?_⟩
    · rw [tS] at hs
      cases u with
      | nil =>
        simp only [List.nil_append, List.cons.injEq, Prod.mk.injEq] at hs
        obtain ⟨⟨rfl, rfl⟩, rfl⟩ := hs
        refine ⟨?_, ?_, l, [], t.pairs, t.deeps, t.most, .none0, by simp, hlen.symm, rfl, Brs.Over.begin (by simp [tP]) tS rfl rfl rfl (by rw [tM]; simp; omega), by simp [tD, hlen, hlenD]⟩
        · unfold Brs.dp
          rw [tD, getD_snoc, if_neg (by omega), if_pos (by omega)]
        · unfold Brs.pr
          rw [tP, getD_snoc, if_neg (by omega), if_pos rfl]
      | cons y u =>
        simp only [List.cons_append, List.cons.injEq] at hs
        exact (hstk u q c r hs.2).step hst (by rw [tS, hs.2]; simp <;> omega)
    · rcases ln hi with hi | rfl
      · rcases hprs i hi with e | ⟨j, e1, e2, e3, e4, e5⟩
        · exact Or.inl ((hp i hi).trans e)
        · exact Or.inr ⟨j, (hp i hi).trans e1, by simp; omega, e3, (hp j e2).trans e4, e5.more (by omega) (by omega) hd (by rw [tM]; omega)⟩
      · left
        unfold Brs.pr
        rw [tP]
        simp [← hlen]
  | some (false, b), ht =>
    have hst := ht
    cases hs0 : s.stack with
    | nil => simp [Brs.step, hs0] at ht
    | cons y r0 =>
      obtain ⟨q, c⟩ := y
      simp only [Brs.step, hs0] at ht
      split at ht
      · rename_i hcb
        simp only [Option.some.injEq] at ht
        have tS : t.stack = r0 := by rw [← ht]
        have tP : t.pairs = s.pairs.set q s.pairs.length ++ [(q : Int)] := by rw [← ht]
        have tD : t.deeps = s.deeps ++ [r0.length] := by rw [← ht]
        have tM : t.most = s.most := by rw [← ht]
        clear ht
        have hO := hstk [] q c r0 (by simp [hs0])
        have hO' := hO
        obtain ⟨o1, o2, l1, mid, P, D, M, m, hl, hq, hm, ho, hDl⟩ := hO
        have hqn : q < l.length := by rw [hl]; simp; omega
        have hd : ∀ k, k < l.length → t.dp k = s.dp k := fun k hk => by unfold Brs.dp; rw [tD]; exact getD_left _ _ _ (by omega)
        have hp : ∀ k, k < l.length → k ≠ q → t.pr k = s.pr k := fun k hk hkq => by
          unfold Brs.pr
          rw [tP, getD_left _ _ _ (by simp; omega), getD_set _ _ _ _ (by omega), if_neg hkq]
        have hpq : t.pr q = l.length := by
          unfold Brs.pr
          rw [tP, getD_left _ _ _ (by simp; omega), getD_set _ _ _ _ (by omega), if_pos rfl, hlen]
        have hpn : t.pr l.length = q := by
          unfold Brs.pr
          rw [tP, getD_snoc, if_neg (by simp; omega), if_pos (by simp [hlen])]
        have hdn : t.dp l.length = r0.length := by
          unfold Brs.dp
          rw [tD, getD_snoc, if_neg (by omega), if_pos (by omega)]
        have hms : m.stack = [] := by
          have e := ho.stack
          rw [hs0] at e
          have e2 := congrArg List.length e
          simp at e2
          exact e2
        have hpair : Paird (l ++ [some (false, b)]) t q l.length := by
          refine ⟨by rw [hd q hqn, hdn, o1], fun k hk1 hk2 => by rw [hd q hqn, hd k hk2, o1]; exact hO'.deeper hlenD hk1 hk2, l1, mid, [], some (true, c), some (false, b), by simp [hl], hq, ?_, m, hm, hms, ?_⟩
          · have := congrArg List.length hl
            simp at this
            omega
          · rw [tM, ho.most]
            omega
        refine ⟨by simp [tP, hlen], by simp [tD, hlenD], by rw [tS, tM]; rw [hs0] at hmost; simp at hmost; omega, fun u q' b' r' hs => ?_, fun i hi => ?_⟩
        · rw [tS] at hs
          exact (hstk ((q, c) :: u) q' b' r' (by rw [hs0, hs]; rfl)).step hst (by rw [tS, hs]; simp)
        · rcases ln hi with hi | rfl
          · by_cases hiq : i = q
            · subst hiq
              refine Or.inr ⟨l.length, hpq, by simp, by omega, hpn, ?_⟩
              rw [Nat.min_eq_left (by omega), Nat.max_eq_right (by omega)]
              exact hpair
            · rcases hprs i hi with e | ⟨j, e1, e2, e3, e4, e5⟩
              · exact Or.inl ((hp i hi hiq).trans e)
              · have hjq : j ≠ q := by
                  rintro rfl
                  rw [o2] at e4
                  omega
                exact Or.inr ⟨j, (hp i hi hiq).trans e1, by simp; omega, e3, (hp j e2 hjq).trans e4, e5.more (by omega) (by omega) hd (by rw [tM]; exact Nat.le_refl _)⟩
          · refine Or.inr ⟨q, hpn, by simp; omega, by omega, hpq, ?_⟩
            rw [Nat.min_eq_right (by omega), Nat.max_eq_left (by omega)]
            exact hpair
      · cases ht

theorem Brs.Fine.run : ∀ {m l : List (Option (Bool × Bool))} {s t : Brs}, Brs.Fine l s → s.run m = some t → Brs.Fine (l ++ m) t
  | [], l, s, t, h, ht => by
    simp only [Brs.run, Option.some.injEq] at ht
    subst ht
    simpa using h
  | x :: m, l, s, t, h, ht => by
    simp only [Brs.run] at ht
    cases hs : s.step x with
    | none => simp [hs] at ht
    | some u =>
      simp only [hs, Option.bind_some] at ht
      have := (h.step x hs).run ht
      simpa using this

/-- Of the whole list. -/
theorem fine_of_run {l : List (Option (Bool × Bool))} {s : Brs} (h : Brs.none0.run l = some s) : Brs.Fine l s := by simpa using Brs.Fine.none0.run h
end Go.Proofs.YtlokkdbgihbnhabDoor
