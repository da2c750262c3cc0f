/-
  Brackets, plainly: what a list's brackets are, one by one, on a stack. No program here.
-/
import Derived.Test.YtlokkdbgihbnhabDoorReg
import Derived.WalkKit
set_option linter.unusedSimpArgs false
set_option linter.unusedVariables false
namespace Go.Proofs.YtlokkdbgihbnhabDoor
open Go.RowKit

/-- What stands on the way: the open brackets (the newest first), partners, depths, how deep it went. -/
structure Brs where
  stack : List (Nat × Bool)
  pairs : List Int
  deeps : List Nat
  most : Nat

def Brs.none0 : Brs := ⟨[], [], [], 0⟩

/-- One token: none: no bracket; some (true, b): one of the kind b opens; some (false, b): one closes. -/
def Brs.step (s : Brs) : Option (Bool × Bool) → Option Brs
  | none => some ⟨s.stack, s.pairs ++ [-1], s.deeps ++ [s.stack.length], s.most⟩
  | some (true, b) => some ⟨(s.pairs.length, b) :: s.stack, s.pairs ++ [-1], s.deeps ++ [s.stack.length], max s.most (s.stack.length + 1)⟩
  | some (false, b) =>
    match s.stack with
    | [] => none
    | (q, c) :: r => if c = b then some ⟨r, (s.pairs.set q s.pairs.length) ++ [(q : Int)], s.deeps ++ [r.length], s.most⟩ else none

def Brs.run (s : Brs) : List (Option (Bool × Bool)) → Option Brs
  | [] => some s
  | x :: l => (s.step x).bind fun t => t.run l

theorem Brs.run_append (l m : List (Option (Bool × Bool))) : ∀ s : Brs, s.run (l ++ m) = (s.run l).bind fun t => t.run m := by
  induction l with
  | nil => intro s; rfl
  | cons x l ih =>
    intro s
    simp only [List.cons_append, Brs.run]
    cases s.step x with
    | none => rfl
    | some t => exact ih t

theorem Brs.run_one (s : Brs) (x : Option (Bool × Bool)) : s.run [x] = s.step x := by
  simp only [Brs.run]
  cases s.step x <;> rfl

theorem Brs.step_len {s t : Brs} {x : Option (Bool × Bool)} (h : s.step x = some t) : t.pairs.length = s.pairs.length + 1 ∧ t.deeps.length = s.deeps.length + 1 := by
  unfold Brs.step at h
  split at h
  · simp only [Option.some.injEq] at h
    subst h
    simp
  · simp only [Option.some.injEq] at h
    subst h
    simp
  · split at h
    · cases h
    · split at h
      · simp only [Option.some.injEq] at h
        subst h
        simp
      · cases h

theorem Brs.run_len : ∀ {l : List (Option (Bool × Bool))} {s t : Brs}, s.run l = some t → t.pairs.length = s.pairs.length + l.length ∧ t.deeps.length = s.deeps.length + l.length
  | [], s, t, h => by
    simp only [Brs.run, Option.some.injEq] at h
    subst h
    simp
  | x :: l, s, t, h => by
    simp only [Brs.run] at h
    cases hs : s.step x with
    | none => simp [hs] at h
    | some u =>
      simp only [hs, Option.bind_some] at h
      have h1 := Brs.step_len hs
      have h2 := Brs.run_len h
      simp only [List.length_cons]
      omega

/-! ### The same brackets further on, over open ones -/

/-- S stands where s stands, k tokens further on, over the stack B: what lies ahead is P, D; M is how deep it had gone. -/
structure Brs.Over (k : Nat) (B : List (Nat × Bool)) (P : List Int) (D : List Nat) (M : Nat) (s S : Brs) : Prop where
  stack : S.stack = s.stack.map (fun x => (x.1 + k, x.2)) ++ B
  pairs : S.pairs = P ++ s.pairs.map (fun p => if p < 0 then p else p + (k : Int))
  deeps : S.deeps = D ++ s.deeps.map (· + B.length)
  most : S.most = max M (s.most + B.length)
  len : P.length = k
  low : ∀ x ∈ s.stack, x.1 < s.pairs.length

section
variable {k : Nat} {B : List (Nat × Bool)} {P : List Int} {D : List Nat} {M : Nat}

theorem Brs.Over.begin (hk : P.length = k) {S : Brs} (h1 : S.stack = B) (h2 : S.pairs = P) (h3 : S.deeps = D) (h4 : S.most = M) (h5 : B.length ≤ M) : Brs.Over k B P D M .none0 S :=
  ⟨by simp [Brs.none0, h1], by simp [Brs.none0, h2], by simp [Brs.none0, h3], by simp [Brs.none0, h4]; omega, hk, by simp [Brs.none0]⟩

theorem set_over {P l : List Int} {q n k : Nat} (hq : q < l.length) (hk : P.length = k) :
    (P ++ l.map (fun p => if p < 0 then p else p + (k : Int))).set (q + k) ((n : Int) + (k : Int)) = P ++ (l.set q (n : Int)).map (fun p => if p < 0 then p else p + (k : Int)) := by
  rw [List.set_append_right _ _ (by omega)]
  congr 1
  rw [show q + k - P.length = q by omega, List.map_set]
  congr 1

/-- A step further on is the step. -/
theorem Brs.Over.step {s S : Brs} (h : Brs.Over k B P D M s S) (x : Option (Bool × Bool)) {t : Brs} (ht : s.step x = some t) : ∃ T, S.step x = some T ∧ Brs.Over k B P D M t T := by
  have hl : S.pairs.length = s.pairs.length + k := by rw [h.pairs]; simp [h.len]; omega
  have hsl : S.stack.length = s.stack.length + B.length := by rw [h.stack]; simp
  match x, ht with
  | none, ht =>
    simp only [Brs.step, Option.some.injEq] at ht
    subst ht
    refine ⟨_, rfl, h.stack, ?_, ?_, h.most, h.len, fun y hy => ?_⟩
    · simp [h.pairs]
    · simp [h.deeps, hsl]
    · have := h.low y hy
      simp
      omega
  | some (true, b), ht =>
    simp only [Brs.step, Option.some.injEq] at ht
    subst ht
    refine ⟨_, rfl, ?_, ?_, ?_, ?_, h.len, fun y hy => ?_⟩
    · simp [h.stack, hl]
    · simp [h.pairs]
    · simp [h.deeps, hsl]
    · simp only [h.most, hsl]
      omega
    · rcases List.mem_cons.1 hy with rfl | hy
      · simp
      · have := h.low y hy
        simp
        omega
  | some (false, b), ht =>
    cases hs : s.stack with
    | nil => simp [Brs.step, hs] at ht
    | cons y r =>
      obtain ⟨q, c⟩ := y
      simp only [Brs.step, hs] at ht
      split at ht
      · rename_i hcb
        simp only [Option.some.injEq] at ht
        subst ht
        have hq := h.low (q, c) (by simp [hs])
        have hS : S.stack = (q + k, c) :: (r.map (fun x => (x.1 + k, x.2)) ++ B) := by rw [h.stack, hs]; simp
        refine ⟨⟨r.map (fun x => (x.1 + k, x.2)) ++ B, S.pairs.set (q + k) S.pairs.length ++ [((q + k : Nat) : Int)], S.deeps ++ [(r.map (fun x => (x.1 + k, x.2)) ++ B).length], S.most⟩, by simp only [Brs.step, hS, if_pos hcb], rfl, ?_, ?_, h.most, h.len, fun y hy => ?_⟩
        · have e := set_over (P := P) (l := s.pairs) (n := s.pairs.length) hq h.len
          have hq0 : ¬ ((q : Int) < 0) := by omega
          simp only [List.map_append, List.map_cons, List.map_nil, if_neg hq0, ← List.append_assoc]
          rw [← e, ← h.pairs, hl]
          simp
        · simp [h.deeps]
        · have := h.low y (by simp [hs, hy])
          simp
          omega
      · cases ht

theorem Brs.Over.run : ∀ {l : List (Option (Bool × Bool))} {s S t : Brs}, Brs.Over k B P D M s S → s.run l = some t → ∃ T, S.run l = some T ∧ Brs.Over k B P D M t T
  | [], s, S, t, h, ht => by
    simp only [Brs.run, Option.some.injEq] at ht
    subst ht
    exact ⟨S, rfl, h⟩
  | x :: l, s, S, t, h, ht => by
    simp only [Brs.run] at ht
    cases hs : s.step x with
    | none => simp [hs] at ht
    | some u =>
      simp only [hs, Option.bind_some] at ht
      obtain ⟨U, h1, h2⟩ := h.step x hs
      obtain ⟨T, h3, h4⟩ := h2.run ht
      exact ⟨T, by simp only [Brs.run, h1, Option.bind_some, h3], h4⟩

/-- A step further on that does not go below the stack is a step. -/
theorem Brs.Over.back {s S : Brs} (h : Brs.Over k B P D M s S) (x : Option (Bool × Bool)) {T : Brs} (hT : S.step x = some T) (hB : B.length ≤ T.stack.length) : ∃ t, s.step x = some t ∧ Brs.Over k B P D M t T := by
  cases ht : s.step x with
  | some t =>
    obtain ⟨T', h1, h2⟩ := h.step x ht
    obtain rfl := Option.some.inj (hT.symm.trans h1)
    exact ⟨t, rfl, h2⟩
  | none =>
    exfalso
    match x, ht, hT with
    | some (false, b), ht, hT =>
      cases hs : s.stack with
      | nil =>
        have hS : S.stack = B := by rw [h.stack, hs]; simp
        cases hb : B with
        | nil => simp [Brs.step, hS, hb] at hT
        | cons y r =>
          obtain ⟨q, c⟩ := y
          simp only [Brs.step, hS, hb] at hT
          split at hT
          · simp only [Option.some.injEq] at hT
            subst hT
            simp [hb] at hB
            omega
          · cases hT
      | cons y r =>
        obtain ⟨q, c⟩ := y
        have hS : S.stack = (q + k, c) :: (r.map (fun x => (x.1 + k, x.2)) ++ B) := by rw [h.stack, hs]; simp
        simp only [Brs.step, hs] at ht
        simp only [Brs.step, hS] at hT
        split at ht
        · cases ht
        · rename_i hcb
          rw [if_neg hcb] at hT
          cases hT
end
end Go.Proofs.YtlokkdbgihbnhabDoor
