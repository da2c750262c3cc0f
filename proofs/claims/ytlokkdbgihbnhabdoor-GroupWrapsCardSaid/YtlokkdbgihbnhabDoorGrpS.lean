/-
  Parts between signs, plainly: with their signs they are the whole; each matches alone, and is one part. No program here.
-/
import Derived.Test.YtlokkdbgihbnhabDoorGrpR
set_option linter.unusedSimpArgs false
set_option linter.unusedVariables false
namespace Go.Proofs.YtlokkdbgihbnhabDoor
open Go.RowKit

/-- Is it a sign that parts, at this depth? -/
def parts0 (g : ByteArray) (x : Tok) (d : Nat) : Prop := d = 0 ∧ x.isSign g = true ∧ x.br = none

/-- The parts, with one token between two, are the list. -/
def Joined : List Tok → List (List Tok) → Prop
  | l, [] => False
  | l, [p] => l = p
  | l, p :: q :: ps => ∃ x r, l = p ++ x :: r ∧ Joined r (q :: ps)

theorem splitGo_ne (g : ByteArray) : ∀ (l : List Tok) (ds : List Nat) (cur : List Tok), splitGo g l ds cur ≠ []
  | [], ds, cur => by simp [splitGo]
  | x :: l, [], cur => by simp [splitGo]
  | x :: l, d :: ds, cur => by
    simp only [splitGo]
    split
    · simp
    · exact splitGo_ne g l ds _

theorem splitGo_joined (g : ByteArray) : ∀ (l : List Tok) (ds : List Nat) (cur : List Tok), ds.length = l.length → Joined (cur ++ l) (splitGo g l ds cur)
  | [], ds, cur, h => by
    simp [splitGo, Joined]
  | x :: l, [], cur, h => by simp at h
  | x :: l, d :: ds, cur, h => by
    simp only [splitGo]
    split
    · have ih := splitGo_joined g l ds [] (by simpa using h)
      cases hs : splitGo g l ds [] with
      | nil => exact absurd hs (splitGo_ne g l ds [])
      | cons p ps =>
        rw [hs] at ih
        exact ⟨x, l, rfl, by simpa using ih⟩
    · have ih := splitGo_joined g l ds (cur ++ [x]) (by simpa using h)
      simpa using ih

theorem splitGo_none (g : ByteArray) : ∀ (l : List Tok) (ds : List Nat) (cur : List Tok), (∀ (k : Nat) (x : Tok) (d : Nat), l[k]? = some x → ds[k]? = some d → ¬ parts0 g x d) → ds.length = l.length → splitGo g l ds cur = [cur ++ l]
  | [], ds, cur, _, _ => by simp [splitGo]
  | x :: l, [], cur, _, h => by simp at h
  | x :: l, d :: ds, cur, hn, h => by
    have h0 : ¬ parts0 g x d := hn 0 x d rfl rfl
    unfold parts0 at h0
    simp only [splitGo, if_neg h0]
    rw [splitGo_none g l ds (cur ++ [x]) (fun k y e h1 h2 => hn (k + 1) y e h1 h2) (by simpa using h)]
    simp

theorem step_deeps {s t : Brs} {x : Option (Bool × Bool)} (h : s.step x = some t) : (∃ d, t.deeps = s.deeps ++ [d] ∧ (x = none → d = s.stack.length ∧ t.stack = s.stack)) ∧ s.most ≤ t.most := by
  match x, h with
  | none, h =>
    simp only [Brs.step, Option.some.injEq] at h
    subst h
    exact ⟨⟨_, rfl, fun _ => ⟨rfl, rfl⟩⟩, Nat.le_refl _⟩
  | some (true, b), h =>
    simp only [Brs.step, Option.some.injEq] at h
    subst h
    exact ⟨⟨_, rfl, fun e => by cases e⟩, by simp; omega⟩
  | some (false, b), h =>
    cases hs : s.stack with
    | nil => simp [Brs.step, hs] at h
    | cons y r =>
      obtain ⟨q, c⟩ := y
      simp only [Brs.step, hs] at h
      split at h
      · simp only [Option.some.injEq] at h
        subst h
        exact ⟨⟨_, rfl, fun e => by cases e⟩, Nat.le_refl _⟩
      · cases h

theorem run_more : ∀ {l : List (Option (Bool × Bool))} {s t : Brs}, s.run l = some t → (∃ e, t.deeps = s.deeps ++ e) ∧ s.most ≤ t.most
  | [], s, t, h => by
    simp only [Brs.run, Option.some.injEq] at h
    subst h
    exact ⟨⟨[], by simp⟩, Nat.le_refl _⟩
  | x :: l, s, t, h => by
    simp only [Brs.run] at h
    cases hs : s.step x with
    | none => simp [hs] at h
    | some u =>
      simp only [hs, Option.bind_some] at h
      obtain ⟨⟨d, h1, _⟩, h2⟩ := step_deeps hs
      obtain ⟨⟨e, h3⟩, h4⟩ := run_more h
      exact ⟨⟨d :: e, by rw [h3, h1]; simp⟩, by omega⟩

theorem whole_part {g : ByteArray} {cur : List Tok} {c : Brs} (hc : Brs.none0.run (brs cur) = some c) (hs : c.stack = []) (hm : c.most ≤ 20)
    (hn : ∀ (k : Nat) (x : Tok) (d : Nat), cur[k]? = some x → c.deeps[k]? = some d → ¬ parts0 g x d) : codeOf cur = 0 ∧ splitOf cur g = [cur] := by
  obtain ⟨c1, c2⟩ := codeOf_of hc hs
  have hl := (fine_of_run hc).lenD
  refine ⟨by rw [c2, if_neg (by omega)], ?_⟩
  unfold splitOf
  rw [c1, splitGo_none g cur c.deeps [] hn (by rw [hl, brs_len])]
  simp

theorem splitGo_parts (g : ByteArray) : ∀ (l : List Tok) (ds : List Nat) (cur : List Tok) (c S T : Brs) (k : Nat) (P : List Int) (D : List Nat) (M : Nat), Brs.none0.run (brs cur) = some c → Brs.Over k [] P D M c S → S.run (brs l) = some T → T.stack = [] → T.most ≤ 20 → T.deeps = S.deeps ++ ds →
    (∀ (k : Nat) (x : Tok) (d : Nat), cur[k]? = some x → c.deeps[k]? = some d → ¬ parts0 g x d) → ∀ p ∈ splitGo g l ds cur, codeOf p = 0 ∧ splitOf p g = [p]
  | [], ds, cur, c, S, T, k, P, D, M, hc, ho, hT, hs, hm, hd, hn => by
    simp only [brs, List.map_nil, Brs.run, Option.some.injEq] at hT
    subst hT
    have h1 := ho.stack
    have h2 := ho.most
    rw [hs] at h1
    intro p hp
    simp only [splitGo, List.mem_singleton] at hp
    subst hp
    refine whole_part hc ?_ ?_ hn
    · have := congrArg List.length h1
      simp at this
      exact List.length_eq_zero_iff.1 this.symm
    · simp at h2
      omega
  | x :: l, ds, cur, c, S, T, k, P, D, M, hc, ho, hT, hs, hm, hd, hn => by
    have e0 : brs (x :: l) = x.br :: brs l := rfl
    rw [e0, Brs.run] at hT
    cases h1 : S.step x.br with
    | none => rw [h1] at hT; cases hT
    | some S1 =>
      rw [h1, Option.bind_some] at hT
      obtain ⟨⟨d, hd1, hd2⟩, hm1⟩ := step_deeps h1
      obtain ⟨⟨e, he⟩, hm2⟩ := run_more hT
      have hds : ds = d :: e := by
        rw [he, hd1, List.append_assoc] at hd
        simpa using (List.append_cancel_left hd).symm
      subst hds
      have hdT : T.deeps = S1.deeps ++ e := he
      simp only [splitGo]
      split
      · rename_i hp
        obtain ⟨p1, p2, p3⟩ := hp
        obtain ⟨q1, q2⟩ := hd2 p3
        have hS : S.stack = [] := List.length_eq_zero_iff.1 (by omega)
        have hcs : c.stack = [] := by
          have h2 := ho.stack
          rw [hS] at h2
          have := congrArg List.length h2
          simp at this
          exact List.length_eq_zero_iff.1 this.symm
        have hcm : c.most ≤ 20 := by
          have h2 := ho.most
          simp at h2
          omega
        intro p hp
        rcases List.mem_cons.1 hp with rfl | hp
        · exact whole_part hc hcs hcm hn
        · exact splitGo_parts g l e [] .none0 S1 T S1.pairs.length S1.pairs S1.deeps S1.most rfl (Brs.Over.begin rfl (q2.trans hS) rfl rfl rfl (by simp)) hT hs hm hdT (fun k x d h => by simp at h) p hp
      · rename_i hp
        obtain ⟨c1, f1, f2⟩ := ho.back x.br h1 (by simp)
        have hc1 : Brs.none0.run (brs (cur ++ [x])) = some c1 := by
          rw [brs_app, Brs.run_append, hc, Option.bind_some]
          show c.run [x.br] = some c1
          rw [Brs.run_one, f1]
        obtain ⟨⟨d', g1, _⟩, _⟩ := step_deeps f1
        have hdd : d' = d := by
          have a1 := ho.deeps
          have a2 := f2.deeps
          rw [hd1, a1, g1] at a2
          simp at a2
          exact a2.symm
        subst hdd
        have hlen : c.deeps.length = cur.length := (fine_of_run hc).lenD.trans (brs_len cur)
        refine splitGo_parts g l e (cur ++ [x]) c1 S1 T k P D M hc1 f2 hT hs hm hdT (fun j y z h3 h4 => ?_)
        rw [g1] at h4
        rcases Nat.lt_or_ge j cur.length with hj | hj
        · rw [List.getElem?_append_left hj] at h3
          rw [List.getElem?_append_left (by omega)] at h4
          exact hn j y z h3 h4
        · have hjl : j = cur.length := by
            have := (List.getElem?_eq_some_iff.1 h3).1
            simp at this
            omega
          subst hjl
          rw [List.getElem?_append_right (by omega)] at h3
          rw [List.getElem?_append_right (by omega)] at h4
          simp at h3
          simp [hlen] at h4
          subst h3 h4
          exact hp

/-- What the statement asks of the parts. -/
theorem whole_law {l : List Tok} (g : ByteArray) (h : codeOf l = 0) : Joined l (splitOf l g) ∧ ∀ p ∈ splitOf l g, codeOf p = 0 ∧ splitOf p g = [p] := by
  obtain ⟨h1, h2, h3⟩ := codeOf_ok h
  have hl := (brsOf_len h).2
  refine ⟨by simpa [splitOf] using splitGo_joined g l (brsOf l).deeps [] hl, ?_⟩
  exact splitGo_parts g l (brsOf l).deeps [] .none0 .none0 (brsOf l) 0 [] [] 0 rfl (Brs.Over.begin (k := 0) (B := []) (P := []) (D := []) (M := 0) (S := .none0) rfl rfl rfl rfl rfl (Nat.le_refl _)) h1 h2 h3 rfl (fun k x d h => by simp at h)
end Go.Proofs.YtlokkdbgihbnhabDoor
