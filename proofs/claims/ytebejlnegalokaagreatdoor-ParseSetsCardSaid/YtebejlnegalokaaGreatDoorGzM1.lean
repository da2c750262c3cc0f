/-
  XGrpP, turned: what this seat needs of it.
-/
import Derived.Test.YtebejlnegalokaaGreatDoorProg
import Derived.Test.YtebejlnegalokaaGreatDoorReg
import Derived.WalkKit
import Derived.WalkSpells
import Derived.WalkLawsBesides
import Derived.Lib.Hide
import Derived.Lib.MinMax
import Derived.Deep.QuietTactic
import Derived.BigQuiet
import Derived.OwnWalk
import Derived.Deep.AppendLies
import Derived.KernelRfl
import Derived.Test.YtebejlnegalokaaGreatDoorReg
import Derived.WalkKit
import Derived.Below
import Derived.Laws.OwnMore
import Derived.Deep.Draws
import Derived.Deep.AppendLies
set_option linter.unusedSimpArgs false
set_option linter.unusedVariables false
namespace Go.Proofs.YtebejlnegalokaaGreatDoor.Gz
open Go.RowKit
/-- What stands on the way: the open brackets (the newest first), partners, depths, how deep it went. -/
structure Brs where
  stack : List (Nat × Bool)
  pairs : List Int
  deeps : List Nat
  most : Nat
def Brs.none0 : Brs := ⟨[], [], [], 0⟩
/-- One token: none: no bracket; some (true, b): one of the kind b opens; some (false, b): one closes. -/
def Brs.step (s : Brs) : Option (Bool × Bool) → Option Brs
  | none => some ⟨s.stack, s.pairs ++ [-1], s.deeps ++ [s.stack.length], s.most⟩
  | some (true, b) => some ⟨(s.pairs.length, b) :: s.stack, s.pairs ++ [-1], s.deeps ++ [s.stack.length], max s.most (s.stack.length + 1)⟩
  | some (false, b) =>
    match s.stack with
    | [] => none
    | (q, c) :: r => if c = b then some ⟨r, (s.pairs.set q s.pairs.length) ++ [(q : Int)], s.deeps ++ [r.length], s.most⟩ else none
def Brs.run (s : Brs) : List (Option (Bool × Bool)) → Option Brs
  | [] => some s
  | x :: l => (s.step x).bind fun t => t.run l
theorem Brs.run_append (l m : List (Option (Bool × Bool))) : ∀ s : Brs, s.run (l ++ m) = (s.run l).bind fun t => t.run m := by
  induction l with
  | nil => intro s; rfl
  | cons x l ih =>
    intro s
    simp only [List.cons_append, Brs.run]
    cases s.step x with
    | none => rfl
    | some t => exact ih t
theorem Brs.run_one (s : Brs) (x : Option (Bool × Bool)) : s.run [x] = s.step x := by
  simp only [Brs.run]
  cases s.step x <;> rfl
/-- S stands where s stands, k tokens further on, over the stack B: what lies ahead is P, D; M is how deep it had gone. -/
structure Brs.Over (k : Nat) (B : List (Nat × Bool)) (P : List Int) (D : List Nat) (M : Nat) (s S : Brs) : Prop where
  stack : S.stack = s.stack.map (fun x => (x.1 + k, x.2)) ++ B
  pairs : S.pairs = P ++ s.pairs.map (fun p => if p < 0 then p else p + (k : Int))
  deeps : S.deeps = D ++ s.deeps.map (· + B.length)
  most : S.most = max M (s.most + B.length)
  len : P.length = k
  low : ∀ x ∈ s.stack, x.1 < s.pairs.length
section
variable {k : Nat} {B : List (Nat × Bool)} {P : List Int} {D : List Nat} {M : Nat}

theorem Brs.Over.begin (hk : P.length = k) {S : Brs} (h1 : S.stack = B) (h2 : S.pairs = P) (h3 : S.deeps = D) (h4 : S.most = M) (h5 : B.length ≤ M) : Brs.Over k B P D M .none0 S :=
  ⟨by simp [Brs.none0, h1], by simp [Brs.none0, h2], by simp [Brs.none0, h3], by simp [Brs.none0, h4]; omega, hk, by simp [Brs.none0]⟩

theorem set_over {P l : List Int} {q n k : Nat} (hq : q < l.length) (hk : P.length = k) :
    (P ++ l.map (fun p => if p < 0 then p else p + (k : Int))).set (q + k) ((n : Int) + (k : Int)) = P ++ (l.set q (n : Int)).map (fun p => if p < 0 then p else p + (k : Int)) := by
  rw [List.set_append_right _ _ (by omega)]
  congr 1
  rw [show q + k - P.length = q by omega, List.map_set]
  congr 1

/-- A step further on is the step. -/
theorem Brs.Over.step {s S : Brs} (h : Brs.Over k B P D M s S) (x : Option (Bool × Bool)) {t : Brs} (ht : s.step x = some t) : ∃ T, S.step x = some T ∧ Brs.Over k B P D M t T := by
  have hl : S.pairs.length = s.pairs.length + k := by rw [h.pairs]; simp [h.len]; omega
  have hsl : S.stack.length = s.stack.length + B.length := by rw [h.stack]; simp
  match x, ht with
  | none, ht =>
    simp only [Brs.step, Option.some.injEq] at ht
    subst ht
    refine ⟨_, rfl, h.stack, ?_, ?_, h.most, h.len, fun y hy => ?_⟩
    · simp [h.pairs]
    · simp [h.deeps, hsl]
    · have := h.low y hy
      simp
      omega
  | some (true, b), ht =>
    simp only [Brs.step, Option.some.injEq] at ht
    subst ht
    refine ⟨_, rfl, ?_, ?_, ?_, ?_, h.len, fun y hy => ?_⟩
    · simp [h.stack, hl]
    · simp [h.pairs]
    · simp [h.deeps, hsl]
    · simp only [h.most, hsl]
      omega
    · rcases List.mem_cons.1 hy with rfl | hy
      · simp
      · have := h.low y hy
        simp
        omega
  | some (false, b), ht =>
    cases hs : s.stack with
    | nil => simp [Brs.step, hs] at ht
    | cons y r =>
      obtain ⟨q, c⟩ := y
      simp only [Brs.step, hs] at ht
      split at ht
      · rename_i hcb
        simp only [Option.some.injEq] at ht
        subst ht
        have hq := h.low (q, c) (by simp [hs])
        have hS : S.stack = (q + k, c) :: (r.map (fun x => (x.1 + k, x.2)) ++ B) := by rw [h.stack, hs]; simp
        refine ⟨⟨r.map (fun x => (x.1 + k, x.2)) ++ B, S.pairs.set (q + k) S.pairs.length ++ [((q + k : Nat) : Int)], S.deeps ++ [(r.map (fun x => (x.1 + k, x.2)) ++ B).length], S.most⟩, by simp only [Brs.step, hS, if_pos hcb], rfl, ?_, ?_, h.most, h.len, fun y hy => ?_⟩
        · have e := set_over (P := P) (l := s.pairs) (n := s.pairs.length) hq h.len
          have hq0 : ¬ ((q : Int) < 0) := by omega
          simp only [List.map_append, List.map_cons, List.map_nil, if_neg hq0, ← List.append_assoc]
          rw [← e, ← h.pairs, hl]
          simp
        · simp [h.deeps]
        · have := h.low y (by simp [hs, hy])
          simp
          omega
      · cases ht

theorem Brs.Over.run : ∀ {l : List (Option (Bool × Bool))} {s S t : Brs}, Brs.Over k B P D M s S → s.run l = some t → ∃ T, S.run l = some T ∧ Brs.Over k B P D M t T
  | [], s, S, t, h, ht => by
    simp only [Brs.run, Option.some.injEq] at ht
    subst ht
    exact ⟨S, rfl, h⟩
  | x :: l, s, S, t, h, ht => by
    simp only [Brs.run] at ht
    cases hs : s.step x with
    | none => simp [hs] at ht
    | some u =>
      simp only [hs, Option.bind_some] at ht
      obtain ⟨U, h1, h2⟩ := h.step x hs
      obtain ⟨T, h3, h4⟩ := h2.run ht
      exact ⟨T, by simp only [Brs.run, h1, Option.bind_some, h3], h4⟩

/-- A step further on that does not go below the stack is a step. -/
theorem Brs.Over.back {s S : Brs} (h : Brs.Over k B P D M s S) (x : Option (Bool × Bool)) {T : Brs} (hT : S.step x = some T) (hB : B.length ≤ T.stack.length) : ∃ t, s.step x = some t ∧ Brs.Over k B P D M t T := by
  cases ht : s.step x with
  | some t =>
    obtain ⟨T', h1, h2⟩ := h.step x ht
    obtain rfl := Option.some.inj (hT.symm.trans h1)
    exact ⟨t, rfl, h2⟩
  | none =>
    exfalso
    match x, ht, hT with
    | some (false, b), ht, hT =>
      cases hs : s.stack with
      | nil =>
        have hS : S.stack = B := by rw [h.stack, hs]; simp
        cases hb : B with
        | nil => simp [Brs.step, hS, hb] at hT
        | cons y r =>
          obtain ⟨q, c⟩ := y
          simp only [Brs.step, hS, hb] at hT
          split at hT
          · simp only [Option.some.injEq] at hT
            subst hT
            simp [hb] at hB
            omega
          · cases hT
      | cons y r =>
        obtain ⟨q, c⟩ := y
        have hS : S.stack = (q + k, c) :: (r.map (fun x => (x.1 + k, x.2)) ++ B) := by rw [h.stack, hs]; simp
        simp only [Brs.step, hs] at ht
        simp only [Brs.step, hS] at hT
        split at ht
        · cases ht
        · rename_i hcb
          rw [if_neg hcb] at hT
          cases hT
end
end Go.Proofs.YtebejlnegalokaaGreatDoor.Gz
/-
  XGrpQ, turned: what this seat needs of it.
-/
namespace Go.Proofs.YtebejlnegalokaaGreatDoor.Gz
open Go.RowKit
/-- The depth, the partner at a place. -/
def Brs.dp (s : Brs) (k : Nat) : Nat := s.deeps.getD k 0
def Brs.pr (s : Brs) (k : Nat) : Int := s.pairs.getD k (-1)
/-- a and b are partners in l: as deep, what is between deeper, and it matches alone. -/
def Paird (l : List (Option (Bool × Bool))) (s : Brs) (a b : Nat) : Prop :=
  s.dp a = s.dp b ∧ (∀ k, a < k → k < b → s.dp a < s.dp k) ∧ ∃ l1 mid l3 x y, l = l1 ++ x :: mid ++ y :: l3 ∧ l1.length = a ∧ a + 1 + mid.length = b ∧ ∃ t, Brs.none0.run mid = some t ∧ t.stack = [] ∧ t.most ≤ s.most
/-- The open bracket q of the kind b over r, in l: what came behind it matches so far. -/
def Opend (l : List (Option (Bool × Bool))) (s : Brs) (q : Nat) (b : Bool) (r : List (Nat × Bool)) : Prop :=
  s.dp q = r.length ∧ s.pr q = -1 ∧ ∃ l1 mid P D M t, l = l1 ++ some (true, b) :: mid ∧ l1.length = q ∧ Brs.none0.run mid = some t ∧ Brs.Over (q + 1) ((q, b) :: r) P D M t s ∧ D.length = q + 1
structure Brs.Fine (l : List (Option (Bool × Bool))) (s : Brs) : Prop where
  len : s.pairs.length = l.length
  lenD : s.deeps.length = l.length
  most : s.stack.length ≤ s.most
  stk : ∀ u q b r, s.stack = u ++ (q, b) :: r → Opend l s q b r
  prs : ∀ i, i < l.length → s.pr i = -1 ∨ ∃ j : Nat, s.pr i = j ∧ j < l.length ∧ j ≠ i ∧ s.pr j = i ∧ Paird l s (min i j) (max i j)
theorem Brs.Fine.none0 : Brs.Fine [] .none0 :=
  ⟨rfl, rfl, Nat.le_refl _, fun u q b r h => by cases u <;> simp [Brs.none0] at h, fun i hi => by simp at hi⟩
/-- Behind an open bracket all lies deeper. -/
theorem Opend.deeper {l : List (Option (Bool × Bool))} {s : Brs} {q : Nat} {b : Bool} {r : List (Nat × Bool)} (h : Opend l s q b r) (hl : s.deeps.length = l.length) {k : Nat} (h1 : q < k) (h2 : k < l.length) : r.length < s.dp k := by
  obtain ⟨_, _, l1, mid, P, D, M, t, _, _, _, ho, hD⟩ := h
  have e := ho.deeps
  unfold Brs.dp
  rw [e, List.getD_eq_getElem?_getD, List.getElem?_append_right (by omega)]
  rw [hl.symm, e] at h2
  simp only [List.length_append, List.length_map] at h2
  have h3 : k - D.length < t.deeps.length := by omega
  simp [h3]
  omega
theorem getD_set (l : List Int) (q n : Nat) (v : Int) (hq : q < l.length) : (l.set q v).getD n (-1) = if n = q then v else l.getD n (-1) := by
  simp only [List.getD_eq_getElem?_getD, List.getElem?_set]
  by_cases h : q = n
  · subst h; simp [hq]
  · rw [if_neg h, if_neg (fun e => h e.symm)]
theorem getD_snoc {α : Type} (l : List α) (x d : α) (n : Nat) : (l ++ [x]).getD n d = if n < l.length then l.getD n d else if n = l.length then x else d := by
  simp only [List.getD_eq_getElem?_getD]
  by_cases h : n < l.length
  · simp [h, List.getElem?_append_left h]
  · rw [if_neg h]
    by_cases h2 : n = l.length
    · subst h2; simp
    · rw [if_neg h2, List.getElem?_eq_none (by simp; omega)]
      rfl
theorem getD_left {α : Type} (A B : List α) (d : α) {n : Nat} (h : n < A.length) : (A ++ B).getD n d = A.getD n d := by
  simp only [List.getD_eq_getElem?_getD, List.getElem?_append_left h]
theorem Opend.step {l : List (Option (Bool × Bool))} {s t : Brs} {q : Nat} {b : Bool} {r : List (Nat × Bool)} {x : Option (Bool × Bool)} (h : Opend l s q b r) (ht : s.step x = some t) (hlow : r.length + 1 ≤ t.stack.length) : Opend (l ++ [x]) t q b r := by
  obtain ⟨h1, h2, l1, mid, P, D, M, m, hl, hq, hm, ho, hD⟩ := h
  obtain ⟨m', e1, e2⟩ := ho.back x ht (by simpa using hlow)
  have hP := ho.len
  have hrun : Brs.none0.run (mid ++ [x]) = some m' := by rw [Brs.run_append, hm, Option.bind_some, Brs.run_one]; exact e1
  refine ⟨?_, ?_, l1, mid ++ [x], P, D, M, m', by simp [hl], hq, hrun, e2, hD⟩
  · unfold Brs.dp at *
    rw [ho.deeps, getD_left _ _ _ (by omega)] at h1
    rw [e2.deeps, getD_left _ _ _ (by omega)]
    exact h1
  · unfold Brs.pr at *
    rw [ho.pairs, getD_left _ _ _ (by omega)] at h2
    rw [e2.pairs, getD_left _ _ _ (by omega)]
    exact h2
theorem Paird.more {l : List (Option (Bool × Bool))} {s t : Brs} {a b : Nat} {x : Option (Bool × Bool)} (h : Paird l s a b) (hb : b < l.length) (ha : a < l.length) (hd : ∀ k, k < l.length → t.dp k = s.dp k) (hm : s.most ≤ t.most) : Paird (l ++ [x]) t a b := by
  obtain ⟨h1, h2, l1, mid, l3, y, z, hl, e1, e2, m, hr, hs, hmm⟩ := h
  refine ⟨by rw [hd a ha, hd b hb, h1], fun k hk1 hk2 => by rw [hd a ha, hd k (by omega)]; exact h2 k hk1 hk2, l1, mid, l3 ++ [x], y, z, by rw [hl]; simp, e1, e2, m, hr, hs, by omega⟩
theorem Brs.Fine.step {l : List (Option (Bool × Bool))} {s t : Brs} (h : Brs.Fine l s) (x : Option (Bool × Bool)) (ht : s.step x = some t) : Brs.Fine (l ++ [x]) t := by
  obtain ⟨hlen, hlenD, hmost, hstk, hprs⟩ := h
  have ln : ∀ {n : Nat}, n < (l ++ [x]).length → n < l.length ∨ n = l.length := fun h => by simp at h; omega
  match x, ht with
  | none, ht =>
    simp only [Brs.step, Option.some.injEq] at ht
    subst ht
    have hd : ∀ k, k < l.length → Brs.dp ⟨s.stack, s.pairs ++ [-1], s.deeps ++ [s.stack.length], s.most⟩ k = s.dp k := fun k hk => by unfold Brs.dp; exact getD_left _ _ _ (by omega)
    have hp : ∀ k, k < l.length → Brs.pr ⟨s.stack, s.pairs ++ [-1], s.deeps ++ [s.stack.length], s.most⟩ k = s.pr k := fun k hk => by unfold Brs.pr; exact getD_left _ _ _ (by omega)
    refine ⟨by simp [hlen], by simp [hlenD], hmost, fun u q b r hs => (hstk u q b r hs).step rfl (by simp [show s.stack = _ from hs]), fun i hi => ?_⟩
    rcases ln hi with hi | rfl
    · rcases hprs i hi with e | ⟨j, e1, e2, e3, e4, e5⟩
      · exact Or.inl ((hp i hi).trans e)
      · exact Or.inr ⟨j, (hp i hi).trans e1, by simp; omega, e3, (hp j e2).trans e4, e5.more (by omega) (by omega) hd (Nat.le_refl _)⟩
    · left
      unfold Brs.pr
      simp [← hlen]
  | some (true, b), ht =>
    simp only [Brs.step, Option.some.injEq] at ht
    have hst : s.step (some (true, b)) = some t := by simp only [Brs.step]; rw [ht]
    have tS : t.stack = (s.pairs.length, b) :: s.stack := by rw [← ht]
    have tP : t.pairs = s.pairs ++ [-1] := by rw [← ht]
    have tD : t.deeps = s.deeps ++ [s.stack.length] := by rw [← ht]
    have tM : t.most = max s.most (s.stack.length + 1) := by rw [← ht]
    clear ht
    have hd : ∀ k, k < l.length → t.dp k = s.dp k := fun k hk => by unfold Brs.dp; rw [tD]; exact getD_left _ _ _ (by omega)
    have hp : ∀ k, k < l.length → t.pr k = s.pr k := fun k hk => by unfold Brs.pr; rw [tP]; exact getD_left _ _ _ (by omega)
    refine ⟨by simp [tP, hlen], by simp [tD, hlenD], by rw [tS, tM]; simp; omega, fun u q c r hs => ?_, fun i hi => ?_⟩
    · rw [tS] at hs
      cases u with
      | nil =>
        simp only [List.nil_append, List.cons.injEq, Prod.mk.injEq] at hs
        obtain ⟨⟨rfl, rfl⟩, rfl⟩ := hs
        refine ⟨?_, ?_, l, [], t.pairs, t.deeps, t.most, .none0, by simp, hlen.symm, rfl, Brs.Over.begin (by simp [tP]) tS rfl rfl rfl (by rw [tM]; simp; omega), by simp [tD, hlen, hlenD]⟩
        · unfold Brs.dp
          rw [tD, getD_snoc, if_neg (by omega), if_pos (by omega)]
        · unfold Brs.pr
          rw [tP, getD_snoc, if_neg (by omega), if_pos rfl]
      | cons y u =>
        simp only [List.cons_append, List.cons.injEq] at hs
        exact (hstk u q c r hs.2).step hst (by rw [tS, hs.2]; simp <;> omega)
    · rcases ln hi with hi | rfl
      · rcases hprs i hi with e | ⟨j, e1, e2, e3, e4, e5⟩
        · exact Or.inl ((hp i hi).trans e)
        · exact Or.inr ⟨j, (hp i hi).trans e1, by simp; omega, e3, (hp j e2).trans e4, e5.more (by omega) (by omega) hd (by rw [tM]; omega)⟩
      · left
        unfold Brs.pr
        rw [tP]
        simp [← hlen]
  | some (false, b), ht =>
    have hst := ht
    cases hs0 : s.stack with
    | nil => simp [Brs.step, hs0] at ht
    | cons y r0 =>
      obtain ⟨q, c⟩ := y
      simp only [Brs.step, hs0] at ht
      split at ht
      · rename_i hcb
        simp only [Option.some.injEq] at ht
        have tS : t.stack = r0 := by rw [← ht]
        have tP : t.pairs = s.pairs.set q s.pairs.length ++ [(q : Int)] := by rw [← ht]
        have tD : t.deeps = s.deeps ++ [r0.length] := by rw [← ht]
        have tM : t.most = s.most := by rw [← ht]
        clear ht
        have hO := hstk [] q c r0 (by simp [hs0])
        have hO' := hO
        obtain ⟨o1, o2, l1, mid, P, D, M, m, hl, hq, hm, ho, hDl⟩ := hO
        have hqn : q < l.length := by rw [hl]; simp; omega
        have hd : ∀ k, k < l.length → t.dp k = s.dp k := fun k hk => by unfold Brs.dp; rw [tD]; exact getD_left _ _ _ (by omega)
        have hp : ∀ k, k < l.length → k ≠ q → t.pr k = s.pr k := fun k hk hkq => by
          unfold Brs.pr
          rw [tP, getD_left _ _ _ (by simp; omega), getD_set _ _ _ _ (by omega), if_neg hkq]
        have hpq : t.pr q = l.length := by
          unfold Brs.pr
          rw [tP, getD_left _ _ _ (by simp; omega), getD_set _ _ _ _ (by omega), if_pos rfl, hlen]
        have hpn : t.pr l.length = q := by
          unfold Brs.pr
          rw [tP, getD_snoc, if_neg (by simp; omega), if_pos (by simp [hlen])]
        have hdn : t.dp l.length = r0.length := by
          unfold Brs.dp
          rw [tD, getD_snoc, if_neg (by omega), if_pos (by omega)]
        have hms : m.stack = [] := by
          have e := ho.stack
          rw [hs0] at e
          have e2 := congrArg List.length e
          simp at e2
          exact e2
        have hpair : Paird (l ++ [some (false, b)]) t q l.length := by
          refine ⟨by rw [hd q hqn, hdn, o1], fun k hk1 hk2 => by rw [hd q hqn, hd k hk2, o1]; exact hO'.deeper hlenD hk1 hk2, l1, mid, [], some (true, c), some (false, b), by simp [hl], hq, ?_, m, hm, hms, ?_⟩
          · have := congrArg List.length hl
            simp at this
            omega
          · rw [tM, ho.most]
            omega
        refine ⟨by simp [tP, hlen], by simp [tD, hlenD], by rw [tS, tM]; rw [hs0] at hmost; simp at hmost; omega, fun u q' b' r' hs => ?_, fun i hi => ?_⟩
        · rw [tS] at hs
          exact (hstk ((q, c) :: u) q' b' r' (by rw [hs0, hs]; rfl)).step hst (by rw [tS, hs]; simp)
        · rcases ln hi with hi | rfl
          · by_cases hiq : i = q
            · subst hiq
              refine Or.inr ⟨l.length, hpq, by simp, by omega, hpn, ?_⟩
              rw [Nat.min_eq_left (by omega), Nat.max_eq_right (by omega)]
              exact hpair
            · rcases hprs i hi with e | ⟨j, e1, e2, e3, e4, e5⟩
              · exact Or.inl ((hp i hi hiq).trans e)
              · have hjq : j ≠ q := by
                  rintro rfl
                  rw [o2] at e4
                  omega
                exact Or.inr ⟨j, (hp i hi hiq).trans e1, by simp; omega, e3, (hp j e2 hjq).trans e4, e5.more (by omega) (by omega) hd (by rw [tM]; exact Nat.le_refl _)⟩
          · refine Or.inr ⟨q, hpn, by simp; omega, by omega, hpq, ?_⟩
            rw [Nat.min_eq_right (by omega), Nat.max_eq_left (by omega)]
            exact hpair
      · cases ht
theorem Brs.Fine.run : ∀ {m l : List (Option (Bool × Bool))} {s t : Brs}, Brs.Fine l s → s.run m = some t → Brs.Fine (l ++ m) t
  | [], l, s, t, h, ht => by
    simp only [Brs.run, Option.some.injEq] at ht
    subst ht
    simpa using h
  | x :: m, l, s, t, h, ht => by
    simp only [Brs.run] at ht
    cases hs : s.step x with
    | none => simp [hs] at ht
    | some u =>
      simp only [hs, Option.bind_some] at ht
      have := (h.step x hs).run ht
      simpa using this
/-- Of the whole list. -/
theorem fine_of_run {l : List (Option (Bool × Bool))} {s : Brs} (h : Brs.none0.run l = some s) : Brs.Fine l s := by simpa using Brs.Fine.none0.run h
end Go.Proofs.YtebejlnegalokaaGreatDoor.Gz
/-
  XGrpR, turned: what this seat needs of it.
-/
namespace Go.Proofs.YtebejlnegalokaaGreatDoor.Gz
open Go.RowKit
structure Tok where
  kind : Int
  text : ByteArray
  glyph : ByteArray
deriving DecidableEq
def gPar : ByteArray := ⟨#[40]⟩
def gPas : ByteArray := ⟨#[41]⟩
def gCur : ByteArray := ⟨#[123]⟩
def gCus : ByteArray := ⟨#[125]⟩
def Tok.isSign (x : Tok) (g : ByteArray) : Bool := decide (x.kind = 8) && decide (x.glyph = g)
/-- Which bracket a token is. -/
def Tok.br (x : Tok) : Option (Bool × Bool) :=
  if x.kind = 8 then (if x.glyph = gPar then some (true, true) else if x.glyph = gCur then some (true, false) else if x.glyph = gPas then some (false, true) else if x.glyph = gCus then some (false, false) else none) else none
def brs (l : List Tok) : List (Option (Bool × Bool)) := l.map Tok.br
/-- What is told of a list's brackets. -/
def codeOf (l : List Tok) : Int :=
  match Brs.none0.run (brs l) with
  | none => 60
  | some s => if s.stack = [] then (if 20 < s.most then 61 else 0) else 60
def brsOf (l : List Tok) : Brs := (Brs.none0.run (brs l)).getD .none0
theorem brs_len (l : List Tok) : (brs l).length = l.length := by simp [brs]
theorem brs_app (l m : List Tok) : brs (l ++ m) = brs l ++ brs m := by simp [brs]
theorem codeOf_ok {l : List Tok} (h : codeOf l = 0) : Brs.none0.run (brs l) = some (brsOf l) ∧ (brsOf l).stack = [] ∧ (brsOf l).most ≤ 20 := by
  unfold codeOf at h
  unfold brsOf
  cases hr : Brs.none0.run (brs l) with
  | none => rw [hr] at h; simp at h
  | some s =>
    rw [hr] at h
    simp only [Option.getD_some] at h ⊢
    split at h
    · rename_i h1
      split at h
      · cases h
      · exact ⟨trivial, h1, by omega⟩
    · cases h
theorem codeOf_of {l : List Tok} {s : Brs} (hr : Brs.none0.run (brs l) = some s) (hs : s.stack = []) : brsOf l = s ∧ codeOf l = if 20 < s.most then 61 else 0 := by
  unfold codeOf brsOf
  rw [hr]
  simp [hs]
theorem codeOf_ways (l : List Tok) : codeOf l = 0 ∨ codeOf l = 60 ∨ codeOf l = 61 := by
  unfold codeOf
  split
  · simp
  · split
    · split <;> simp
    · simp
theorem brsOf_len {l : List Tok} (h : codeOf l = 0) : (brsOf l).pairs.length = l.length ∧ (brsOf l).deeps.length = l.length := by
  have := fine_of_run (codeOf_ok h).1
  exact ⟨this.len.trans (brs_len l), this.lenD.trans (brs_len l)⟩
theorem joins_law {l m : List Tok} (hl : codeOf l = 0) (hm : codeOf m = 0) :
    codeOf (l ++ m) = 0 ∧ (brsOf (l ++ m)).pairs = (brsOf l).pairs ++ (brsOf m).pairs.map (fun p => if p < 0 then p else p + (l.length : Int)) := by
  obtain ⟨a1, a2, a3⟩ := codeOf_ok hl
  obtain ⟨b1, b2, b3⟩ := codeOf_ok hm
  obtain ⟨n1, n2⟩ := brsOf_len hl
  obtain ⟨T, e1, e2⟩ := (Brs.Over.begin (k := l.length) (S := brsOf l) n1 a2 rfl rfl rfl (by simp)).run b1
  have hr : Brs.none0.run (brs (l ++ m)) = some T := by rw [brs_app, Brs.run_append, a1]; exact e1
  have hs : T.stack = [] := by rw [e2.stack, b2]; rfl
  obtain ⟨c1, c2⟩ := codeOf_of hr hs
  rw [c1, c2]
  refine ⟨?_, e2.pairs⟩
  rw [if_neg]
  rw [e2.most]
  simp
  omega
theorem wraps_law {l : List Tok} {x y : Tok} (hx : x.br = some (true, true)) (hy : y.br = some (false, true)) {s : Brs} (hr : Brs.none0.run (brs l) = some s) (hs : s.stack = []) :
    codeOf (x :: l ++ [y]) = (if 20 < s.most + 1 then 61 else 0) ∧ (brsOf (x :: l ++ [y])).deeps = 0 :: s.deeps.map (· + 1) ++ [0] ∧ (brsOf (x :: l ++ [y])).pairs.getD 0 (-1) = (l.length : Int) + 1 := by
  have hn := fine_of_run hr
  have h0 : Brs.none0.step (some (true, true)) = some ⟨[(0, true)], [-1], [0], 1⟩ := rfl
  obtain ⟨T, e1, e2⟩ := (Brs.Over.begin (k := 1) (B := [(0, true)]) (P := [-1]) (D := [0]) (M := 1) (S := ⟨[(0, true)], [-1], [0], 1⟩) rfl rfl rfl rfl rfl (by simp)).run hr
  have tS : T.stack = [(0, true)] := by rw [e2.stack, hs]; rfl
  have tP : T.pairs = -1 :: s.pairs.map (fun p => if p < 0 then p else p + (1 : Int)) := e2.pairs
  have tD : T.deeps = 0 :: s.deeps.map (· + 1) := e2.deeps
  have tM : T.most = max 1 (s.most + 1) := e2.most
  have tL : T.pairs.length = l.length + 1 := by rw [tP]; simp [hn.len, brs_len]
  have h9 : T.step (some (false, true)) = some ⟨[], T.pairs.set 0 T.pairs.length ++ [((0 : Nat) : Int)], T.deeps ++ [0], T.most⟩ := by simp [Brs.step, tS]
  have hrun : Brs.none0.run (brs (x :: l ++ [y])) = some ⟨[], T.pairs.set 0 T.pairs.length ++ [((0 : Nat) : Int)], T.deeps ++ [0], T.most⟩ := by
    have : brs (x :: l ++ [y]) = some (true, true) :: (brs l ++ [some (false, true)]) := by simp [brs, hx, hy]
    rw [this, Brs.run, h0, Option.bind_some, Brs.run_append, e1, Option.bind_some, Brs.run_one, h9]
  obtain ⟨c1, c2⟩ := codeOf_of hrun rfl
  rw [c1, c2]
  refine ⟨?_, by simp [tD], ?_⟩
  · simp only [tM]
    have : (20 < max 1 (s.most + 1)) ↔ 20 < s.most + 1 := by omega
    simp only [this]
  · simp only [tP] at tL ⊢
    simp
    simp at tL
    exact_mod_cast tL
theorem wraps_none {l : List Tok} {x y : Tok} (hx : x.br = some (true, true)) (hy : y.br = some (false, true)) (h : codeOf l = 61) : codeOf (x :: l ++ [y]) = 61 := by
  unfold codeOf at h
  cases hr : Brs.none0.run (brs l) with
  | none => rw [hr] at h; simp at h
  | some s =>
    rw [hr] at h
    simp only at h
    split at h
    · rename_i h1
      split at h
      · rw [(wraps_law hx hy hr h1).1, if_pos (by omega)]
      · cases h
    · cases h
/-- What lies between two places. -/
def between2 (l : List Tok) (a b : Nat) : List Tok := (l.drop (a + 1)).take (b - (a + 1))
theorem partners_law {l : List Tok} (h : codeOf l = 0) {i : Nat} (hi : i < l.length) (hp : (brsOf l).pr i ≠ -1) : ∃ j : Nat, (brsOf l).pr i = j ∧ j < l.length ∧ j ≠ i ∧ (brsOf l).pr j = i ∧
    (brsOf l).dp j = (brsOf l).dp i ∧ (∀ k, min i j < k → k < max i j → (brsOf l).dp i < (brsOf l).dp k) ∧ codeOf (between2 l (min i j) (max i j)) = 0 := by
  obtain ⟨h1, h2, h3⟩ := codeOf_ok h
  have hf := fine_of_run h1
  rcases hf.prs i (by rw [brs_len]; exact hi) with e | ⟨j, e1, e2, e3, e4, e5, e6, l1, mid, l3, x, y, hl, q1, q2, t, t1, t2, t3⟩
  · exact absurd e hp
  · rw [brs_len] at e2
    have hd : (brsOf l).dp j = (brsOf l).dp i ∧ (brsOf l).dp i = (brsOf l).dp (min i j) := by
      rcases Nat.lt_or_ge i j with h | h
      · rw [Nat.min_eq_left (by omega), Nat.max_eq_right (by omega)] at e5
        rw [Nat.min_eq_left (by omega)]
        exact ⟨e5.symm, rfl⟩
      · rw [Nat.min_eq_right h, Nat.max_eq_left h] at e5
        rw [Nat.min_eq_right h]
        exact ⟨e5, e5.symm⟩
    refine ⟨j, e1, e2, e3, e4, hd.1, fun k h1 h2 => by rw [hd.2]; exact e6 k h1 h2, ?_⟩
    have hb : brs (between2 l (min i j) (max i j)) = mid := by
      unfold between2
      unfold brs at hl ⊢
      rw [List.map_take, List.map_drop, hl]
      have a1 : min i j + 1 = (l1 ++ [x]).length := by simp [q1]
      have a2 : max i j - (min i j + 1) = mid.length := by omega
      have a3 : l1 ++ x :: mid ++ y :: l3 = (l1 ++ [x]) ++ (mid ++ y :: l3) := by simp
      rw [a3, a1, List.drop_left, ← a1, a2, List.take_left]
    have t1' : Brs.none0.run (brs (between2 l (min i j) (max i j))) = some t := by rw [hb]; exact t1
    rw [(codeOf_of t1' t2).2, if_neg (by omega)]
/-- The parts between signs that are 0 deep; 'cur' is what the part that is begun has. -/
def splitGo (g : ByteArray) : List Tok → List Nat → List Tok → List (List Tok)
  | x :: l, d :: ds, cur => if d = 0 ∧ x.isSign g = true ∧ x.br = none then cur :: splitGo g l ds [] else splitGo g l ds (cur ++ [x])
  | _, _, cur => [cur]
def splitOf (l : List Tok) (g : ByteArray) : List (List Tok) := splitGo g l (brsOf l).deeps []
end Go.Proofs.YtebejlnegalokaaGreatDoor.Gz
/-
  XGrpS, turned: what this seat needs of it.
-/
namespace Go.Proofs.YtebejlnegalokaaGreatDoor.Gz
open Go.RowKit
/-- Is it a sign that parts, at this depth? -/
def parts0 (g : ByteArray) (x : Tok) (d : Nat) : Prop := d = 0 ∧ x.isSign g = true ∧ x.br = none
/-- The parts, with one token between two, are the list. -/
def Joined : List Tok → List (List Tok) → Prop
  | l, [] => False
  | l, [p] => l = p
  | l, p :: q :: ps => ∃ x r, l = p ++ x :: r ∧ Joined r (q :: ps)
theorem splitGo_ne (g : ByteArray) : ∀ (l : List Tok) (ds : List Nat) (cur : List Tok), splitGo g l ds cur ≠ []
  | [], ds, cur => by simp [splitGo]
  | x :: l, [], cur => by simp [splitGo]
  | x :: l, d :: ds, cur => by
    simp only [splitGo]
    split
    · simp
    · exact splitGo_ne g l ds _
theorem splitGo_joined (g : ByteArray) : ∀ (l : List Tok) (ds : List Nat) (cur : List Tok), ds.length = l.length → Joined (cur ++ l) (splitGo g l ds cur)
  | [], ds, cur, h => by
    simp [splitGo, Joined]
  | x :: l, [], cur, h => by simp at h
  | x :: l, d :: ds, cur, h => by
    simp only [splitGo]
    split
    · have ih := splitGo_joined g l ds [] (by simpa using h)
      cases hs : splitGo g l ds [] with
      | nil => exact absurd hs (splitGo_ne g l ds [])
      | cons p ps =>
        rw [hs] at ih
        exact ⟨x, l, rfl, by simpa using ih⟩
    · have ih := splitGo_joined g l ds (cur ++ [x]) (by simpa using h)
      simpa using ih
theorem splitGo_none (g : ByteArray) : ∀ (l : List Tok) (ds : List Nat) (cur : List Tok), (∀ (k : Nat) (x : Tok) (d : Nat), l[k]? = some x → ds[k]? = some d → ¬ parts0 g x d) → ds.length = l.length → splitGo g l ds cur = [cur ++ l]
  | [], ds, cur, _, _ => by simp [splitGo]
  | x :: l, [], cur, _, h => by simp at h
  | x :: l, d :: ds, cur, hn, h => by
    have h0 : ¬ parts0 g x d := hn 0 x d rfl rfl
    unfold parts0 at h0
    simp only [splitGo, if_neg h0]
    rw [splitGo_none g l ds (cur ++ [x]) (fun k y e h1 h2 => hn (k + 1) y e h1 h2) (by simpa using h)]
    simp
theorem step_deeps {s t : Brs} {x : Option (Bool × Bool)} (h : s.step x = some t) : (∃ d, t.deeps = s.deeps ++ [d] ∧ (x = none → d = s.stack.length ∧ t.stack = s.stack)) ∧ s.most ≤ t.most := by
  match x, h with
  | none, h =>
    simp only [Brs.step, Option.some.injEq] at h
    subst h
    exact ⟨⟨_, rfl, fun _ => ⟨rfl, rfl⟩⟩, Nat.le_refl _⟩
  | some (true, b), h =>
    simp only [Brs.step, Option.some.injEq] at h
    subst h
    exact ⟨⟨_, rfl, fun e => by cases e⟩, by simp; omega⟩
  | some (false, b), h =>
    cases hs : s.stack with
    | nil => simp [Brs.step, hs] at h
    | cons y r =>
      obtain ⟨q, c⟩ := y
      simp only [Brs.step, hs] at h
      split at h
      · simp only [Option.some.injEq] at h
        subst h
        exact ⟨⟨_, rfl, fun e => by cases e⟩, Nat.le_refl _⟩
      · cases h
theorem run_more : ∀ {l : List (Option (Bool × Bool))} {s t : Brs}, s.run l = some t → (∃ e, t.deeps = s.deeps ++ e) ∧ s.most ≤ t.most
  | [], s, t, h => by
    simp only [Brs.run, Option.some.injEq] at h
    subst h
    exact ⟨⟨[], by simp⟩, Nat.le_refl _⟩
  | x :: l, s, t, h => by
    simp only [Brs.run] at h
    cases hs : s.step x with
    | none => simp [hs] at h
    | some u =>
      simp only [hs, Option.bind_some] at h
      obtain ⟨⟨d, h1, _⟩, h2⟩ := step_deeps hs
      obtain ⟨⟨e, h3⟩, h4⟩ := run_more h
      exact ⟨⟨d :: e, by rw [h3, h1]; simp⟩, by omega⟩
theorem whole_part {g : ByteArray} {cur : List Tok} {c : Brs} (hc : Brs.none0.run (brs cur) = some c) (hs : c.stack = []) (hm : c.most ≤ 20)
    (hn : ∀ (k : Nat) (x : Tok) (d : Nat), cur[k]? = some x → c.deeps[k]? = some d → ¬ parts0 g x d) : codeOf cur = 0 ∧ splitOf cur g = [cur] := by
  obtain ⟨c1, c2⟩ := codeOf_of hc hs
  have hl := (fine_of_run hc).lenD
  refine ⟨by rw [c2, if_neg (by omega)], ?_⟩
  unfold splitOf
  rw [c1, splitGo_none g cur c.deeps [] hn (by rw [hl, brs_len])]
  simp
theorem splitGo_parts (g : ByteArray) : ∀ (l : List Tok) (ds : List Nat) (cur : List Tok) (c S T : Brs) (k : Nat) (P : List Int) (D : List Nat) (M : Nat), Brs.none0.run (brs cur) = some c → Brs.Over k [] P D M c S → S.run (brs l) = some T → T.stack = [] → T.most ≤ 20 → T.deeps = S.deeps ++ ds →
    (∀ (k : Nat) (x : Tok) (d : Nat), cur[k]? = some x → c.deeps[k]? = some d → ¬ parts0 g x d) → ∀ p ∈ splitGo g l ds cur, codeOf p = 0 ∧ splitOf p g = [p]
  | [], ds, cur, c, S, T, k, P, D, M, hc, ho, hT, hs, hm, hd, hn => by
    simp only [brs, List.map_nil, Brs.run, Option.some.injEq] at hT
    subst hT
    have h1 := ho.stack
    have h2 := ho.most
    rw [hs] at h1
    intro p hp
    simp only [splitGo, List.mem_singleton] at hp
    subst hp
    refine whole_part hc ?_ ?_ hn
    · have := congrArg List.length h1
      simp at this
      exact List.length_eq_zero_iff.1 this.symm
    · simp at h2
      omega
  | x :: l, ds, cur, c, S, T, k, P, D, M, hc, ho, hT, hs, hm, hd, hn => by
    have e0 : brs (x :: l) = x.br :: brs l := rfl
    rw [e0, Brs.run] at hT
    cases h1 : S.step x.br with
    | none => rw [h1] at hT; cases hT
    | some S1 =>
      rw [h1, Option.bind_some] at hT
      obtain ⟨⟨d, hd1, hd2⟩, hm1⟩ := step_deeps h1
      obtain ⟨⟨e, he⟩, hm2⟩ := run_more hT
      have hds : ds = d :: e := by
        rw [he, hd1, List.append_assoc] at hd
        simpa using (List.append_cancel_left hd).symm
      subst hds
      have hdT : T.deeps = S1.deeps ++ e := he
      simp only [splitGo]
      split
      · rename_i hp
        obtain ⟨p1, p2, p3⟩ := hp
        obtain ⟨q1, q2⟩ := hd2 p3
        have hS : S.stack = [] := List.length_eq_zero_iff.1 (by omega)
        have hcs : c.stack = [] := by
          have h2 := ho.stack
          rw [hS] at h2
          have := congrArg List.length h2
          simp at this
          exact List.length_eq_zero_iff.1 this.symm
        have hcm : c.most ≤ 20 := by
          have h2 := ho.most
          simp at h2
          omega
        intro p hp
        rcases List.mem_cons.1 hp with rfl | hp
        · exact whole_part hc hcs hcm hn
        · exact splitGo_parts g l e [] .none0 S1 T S1.pairs.length S1.pairs S1.deeps S1.most rfl (Brs.Over.begin rfl (q2.trans hS) rfl rfl rfl (by simp)) hT hs hm hdT (fun k x d h => by simp at h) p hp
      · rename_i hp
        obtain ⟨c1, f1, f2⟩ := ho.back x.br h1 (by simp)
        have hc1 : Brs.none0.run (brs (cur ++ [x])) = some c1 := by
          rw [brs_app, Brs.run_append, hc, Option.bind_some]
          show c.run [x.br] = some c1
          rw [Brs.run_one, f1]
        obtain ⟨⟨d', g1, _⟩, _⟩ := step_deeps f1
        have hdd : d' = d := by
          have a1 := ho.deeps
          have a2 := f2.deeps
          rw [hd1, a1, g1] at a2
          simp at a2
          exact a2.symm
        subst hdd
        have hlen : c.deeps.length = cur.length := (fine_of_run hc).lenD.trans (brs_len cur)
        refine splitGo_parts g l e (cur ++ [x]) c1 S1 T k P D M hc1 f2 hT hs hm hdT (fun j y z h3 h4 => ?_)
        rw [g1] at h4
        rcases Nat.lt_or_ge j cur.length with hj | hj
        · rw [List.getElem?_append_left hj] at h3
          rw [List.getElem?_append_left (by omega)] at h4
          exact hn j y z h3 h4
        · have hjl : j = cur.length := by
            have := (List.getElem?_eq_some_iff.1 h3).1
            simp at this
            omega
          subst hjl
          rw [List.getElem?_append_right (by omega)] at h3
          rw [List.getElem?_append_right (by omega)] at h4
          simp at h3
          simp [hlen] at h4
          subst h3 h4
          exact hp
/-- What the statement asks of the parts. -/
theorem whole_law {l : List Tok} (g : ByteArray) (h : codeOf l = 0) : Joined l (splitOf l g) ∧ ∀ p ∈ splitOf l g, codeOf p = 0 ∧ splitOf p g = [p] := by
  obtain ⟨h1, h2, h3⟩ := codeOf_ok h
  have hl := (brsOf_len h).2
  refine ⟨by simpa [splitOf] using splitGo_joined g l (brsOf l).deeps [] hl, ?_⟩
  exact splitGo_parts g l (brsOf l).deeps [] .none0 .none0 (brsOf l) 0 [] [] 0 rfl (Brs.Over.begin (k := 0) (B := []) (P := []) (D := []) (M := 0) (S := .none0) rfl rfl rfl rfl rfl (Nat.le_refl _)) h1 h2 h3 rfl (fun k x d h => by simp at h)
end Go.Proofs.YtebejlnegalokaaGreatDoor.Gz
/-
  XGrpT, turned: what this seat needs of it.
-/
namespace Go.Proofs.YtebejlnegalokaaGreatDoor.Gz
open Go.RowKit
def Tok.cells (x : Tok) : List Value := [.int .i64 x.kind, .string x.text, .string x.glyph]
def Tok.val (x : Tok) : Value := .agg #[.int .i64 x.kind, .string x.text, .string x.glyph]
/-- The slice value '.slice A n c' holds, in w, the tokens l. -/
def HoldsT (w : World) (A : Option Addr) (l : List Tok) : Prop :=
  ∀ (k : Nat) (x : Tok), l[k]? = some x → ∃ b off, A = some ⟨b, off, none⟩ ∧ w.cell? ⟨b, off + k * 3, none⟩ = some (.int .i64 x.kind) ∧
    w.cell? ⟨b, off + k * 3 + 1, none⟩ = some (.string x.text) ∧ w.cell? ⟨b, off + k * 3 + 2, none⟩ = some (.string x.glyph)
/-- .. the numbers l. -/
def HoldsI (w : World) (A : Option Addr) (l : List Int) : Prop :=
  ∀ (k : Nat) (x : Int), l[k]? = some x → ∃ b off, A = some ⟨b, off, none⟩ ∧ w.cell? ⟨b, off + k, none⟩ = some (.int .i64 x)
theorem cell_lt {w : World} {p : Addr} {v : Value} (h : w.cell? p = some v) : p.block < w.heap.size := by
  rcases Nat.lt_or_ge p.block w.heap.size with h1 | h1
  · exact h1
  · simp [World.cell?, Array.getElem?_eq_none h1] at h
theorem HoldsT.below {w w' : World} {A : Option Addr} {l : List Tok} (h : HoldsT w A l) (hb : Below w.heap.size w w') : HoldsT w' A l := fun k x hx => by
  obtain ⟨b, off, e, h1, h2, h3⟩ := h k x hx
  have hl : b < w.heap.size := cell_lt h1
  exact ⟨b, off, e, (hb.cell (p := ⟨b, _, none⟩) hl).trans h1, (hb.cell (p := ⟨b, _, none⟩) hl).trans h2, (hb.cell (p := ⟨b, _, none⟩) hl).trans h3⟩
theorem HoldsI.below {w w' : World} {A : Option Addr} {l : List Int} (h : HoldsI w A l) (hb : Below w.heap.size w w') : HoldsI w' A l := fun k x hx => by
  obtain ⟨b, off, e, h1⟩ := h k x hx
  have hl : b < w.heap.size := cell_lt h1
  exact ⟨b, off, e, (hb.cell (p := ⟨b, _, none⟩) hl).trans h1⟩
theorem HoldsT.drewN {w : World} {A : Option Addr} {l : List Tok} (h : HoldsT w A l) (n : Nat) : HoldsT (w.drewN n) A l := h
theorem HoldsI.drewN {w : World} {A : Option Addr} {l : List Int} (h : HoldsI w A l) (n : Nat) : HoldsI (w.drewN n) A l := h
theorem HoldsT.nil (w : World) (A : Option Addr) : HoldsT w A [] := fun k x hx => by simp at hx
theorem HoldsI.nil (w : World) (A : Option Addr) : HoldsI w A [] := fun k x hx => by simp at hx
theorem below_drewN {B : Nat} {a w : World} (h : Below B a w) (n : Nat) : Below B a (w.drewN n) := ⟨h.os, h.tape, h.output, h.size, h.block⟩
def tokCells (l : List Tok) : List Value := l.flatMap Tok.cells
def intCells (l : List Int) : List Value := l.map (Value.int .i64)
theorem tokCells_length (l : List Tok) : (tokCells l).length = l.length * 3 := by
  induction l with
  | nil => rfl
  | cons x l ih => simp [tokCells, Tok.cells] at ih ⊢; omega
theorem tokCells_append (l m : List Tok) : tokCells (l ++ m) = tokCells l ++ tokCells m := by simp [tokCells]
theorem tokCells_one (x : Tok) : tokCells [x] = x.cells := by simp [tokCells]
theorem intCells_length (l : List Int) : (intCells l).length = l.length := by simp [intCells]
theorem intCells_append (l m : List Int) : intCells (l ++ m) = intCells l ++ intCells m := by simp [intCells]
theorem ownBlock_ge {w : World} {base : Nat} {e : TypeId} {size : Nat} {v : Value} {n : Nat} {xs : List Value} (h : w.ownsRow base e size v n xs) : ∀ k, v.ownBlock = some k → base ≤ k := by
  intro k hk
  rcases h.2 with ⟨rfl, _⟩ | ⟨g, cap, cur, rfl, hg, _⟩
  · simp [Value.ownBlock] at hk
  · simp [Value.ownBlock] at hk
    omega
theorem ownBlock_lt {w : World} {base : Nat} {e : TypeId} {size : Nat} {v : Value} {n : Nat} {xs : List Value} (h : w.ownsRow base e size v n xs) : ∀ k, v.ownBlock = some k → k < w.heap.size := by
  intro k hk
  rcases h.2 with ⟨rfl, _⟩ | ⟨g, cap, cur, rfl, hg, hh, _⟩
  · simp [Value.ownBlock] at hk
  · simp [Value.ownBlock] at hk
    subst hk
    rcases Nat.lt_or_ge g w.heap.size with h1 | h1
    · exact h1
    · rw [Array.getElem?_eq_none h1] at hh; cases hh
theorem tokCells_get (l : List Tok) : ∀ (k : Nat) (x : Tok), l[k]? = some x → (tokCells l)[k * 3]? = some (.int .i64 x.kind) ∧ (tokCells l)[k * 3 + 1]? = some (.string x.text) ∧ (tokCells l)[k * 3 + 2]? = some (.string x.glyph) := by
  induction l with
  | nil => intro k x h; simp at h
  | cons y l ih =>
    intro k x h
    have e : tokCells (y :: l) = [.int .i64 y.kind, .string y.text, .string y.glyph] ++ tokCells l := by simp [tokCells, Tok.cells]
    cases k with
    | zero =>
      simp at h
      subst h
      rw [e]
      exact ⟨rfl, rfl, rfl⟩
    | succ k =>
      have h1 := ih k x (by simpa using h)
      rw [e]
      refine ⟨?_, ?_, ?_⟩
      · rw [List.getElem?_append_right (by simp; omega)]
        rw [← h1.1]; congr 1; simp; omega
      · rw [List.getElem?_append_right (by simp; omega)]
        rw [← h1.2.1]; congr 1; simp; omega
      · rw [List.getElem?_append_right (by simp; omega)]
        rw [← h1.2.2]; congr 1; simp; omega
theorem holdsT_of_own {w : World} {base : Nat} {e : TypeId} {v : Value} {n : Nat} {l : List Tok} (h : w.ownsRow base e 3 v n (tokCells l)) :
    ∃ A c, v = .slice A l.length c ∧ n = l.length ∧ HoldsT w A l ∧ l.length ≤ c := by
  have hn : n = l.length := by have h1 := h.1; rw [tokCells_length] at h1; omega
  subst hn
  rcases h.2 with ⟨rfl, h0⟩ | ⟨g, cap, cur, rfl, _, _, hcap, _⟩
  · have : l = [] := List.eq_nil_of_length_eq_zero h0
    subst this
    exact ⟨none, 0, rfl, rfl, HoldsT.nil _ _, Nat.le_refl _⟩
  · refine ⟨some ⟨g, 0, none⟩, cap, rfl, rfl, fun k x hx => ?_, hcap⟩
    have hc := h.cells (g := g) rfl
    obtain ⟨h1, h2, h3⟩ := tokCells_get l k x hx
    have c1 := hc _ _ h1
    have c2 := hc _ _ h2
    have c3 := hc _ _ h3
    have ea : ∀ j, (⟨g, 0, none⟩ : Addr).add j = ⟨g, 0 + j, none⟩ := fun j => by
      unfold Addr.add
      split
      · rename_i h; subst h; rfl
      · rfl
    rw [ea] at c1 c2 c3
    exact ⟨g, 0, rfl, c1, by rw [Nat.add_assoc]; exact c2, by rw [Nat.add_assoc]; exact c3⟩
theorem holdsI_of_own {w : World} {base : Nat} {e : TypeId} {v : Value} {n : Nat} {l : List Int} (h : w.ownsRow base e 1 v n (intCells l)) :
    ∃ A c, v = .slice A l.length c ∧ n = l.length ∧ HoldsI w A l ∧ l.length ≤ c := by
  have hn : n = l.length := by have h1 := h.1; rw [intCells_length] at h1; omega
  subst hn
  rcases h.2 with ⟨rfl, h0⟩ | ⟨g, cap, cur, rfl, _, _, hcap, _⟩
  · have : l = [] := List.eq_nil_of_length_eq_zero h0
    subst this
    exact ⟨none, 0, rfl, rfl, HoldsI.nil _ _, Nat.le_refl _⟩
  · refine ⟨some ⟨g, 0, none⟩, cap, rfl, rfl, fun k x hx => ?_, hcap⟩
    have hc := h.cells (g := g) rfl
    have h1 : (intCells l)[k]? = some (.int .i64 x) := by simp [intCells, hx]
    have c1 := hc _ _ h1
    have ea : ∀ j, (⟨g, 0, none⟩ : Addr).add j = ⟨g, 0 + j, none⟩ := fun j => by
      unfold Addr.add
      split
      · rename_i h; subst h; rfl
      · rfl
    rw [ea] at c1
    exact ⟨g, 0, rfl, c1⟩
/-- What 'Few' makes of tokens. -/
def cut300 (s : ByteArray) : ByteArray := s.extract 0 (min s.size 300)
def few1 (x : Tok) : Tok := ⟨x.kind, cut300 x.text, cut300 x.glyph⟩
def fewTo (l : List Tok) (k : Nat) : List Tok := (l.take k).map few1
def few (l : List Tok) : List Tok := fewTo l 60
theorem fewTo_succ (l : List Tok) (k : Nat) (h : k < l.length) : fewTo l (k + 1) = fewTo l k ++ [few1 l[k]] := by
  unfold fewTo
  rw [List.take_succ_eq_append_getElem h, List.map_append]; rfl
theorem fewTo_all (l : List Tok) (h : l.length ≤ 60) : fewTo l l.length = few l := by
  unfold few fewTo
  rw [List.take_of_length_le (Nat.le_refl _), List.take_of_length_le h]
/-- Tokens whose texts are not too long, and not too many. -/
def mildT (l : List Tok) : Prop := l.length ≤ 1000 ∧ ∀ (k : Nat) (x : Tok), l[k]? = some x → x.text.size ≤ 1000000 ∧ x.glyph.size ≤ 1000000
end Go.Proofs.YtebejlnegalokaaGreatDoor.Gz
/-
  XGrpL, turned: what this seat needs of it.
-/
namespace Go.Proofs.YtebejlnegalokaaGreatDoor.Gz
open Go.RowKit
def many (p : UInt8 → Bool) (l : List UInt8) : Nat := (l.takeWhile p).length
end Go.Proofs.YtebejlnegalokaaGreatDoor.Gz
