/-
  What the parser gives, plainly: right trees, few nodes, no failure to join.
-/
import Derived.Test.YtebejlnegalokaaGreatDoorPw9
import Derived.Test.YtebejlnegalokaaGreatDoorPaQ
set_option linter.unusedSimpArgs false
set_option linter.unusedVariables false
namespace Go.Proofs.YtebejlnegalokaaGreatDoor
open Go.RowKit
open Gz (Tok Brs brs codeOf brsOf matchOf splitGo splitOf splitRes insideRes gPar gPas gCur gCus between2)
open Nz (Nd rightN joinN nodesOk formOk nodeAt bodyOf endsOf sizeOfT movedN rightN_parts nodesOk_at nodes_kid nodeAt_some)

/-! ### Codes -/
def codeR : Option Brs → Int
  | none => 60
  | some s => if s.stack = [] then (if 20 < s.most then 61 else 0) else 60
theorem codeOf_eq (l : List Tok) : codeOf l = codeR (Brs.none0.run (brs l)) := by
  unfold codeOf codeR
  cases Brs.none0.run (brs l) <;> rfl
def Sim (s t : Brs) : Prop := t.stack.map Prod.snd = s.stack.map Prod.snd ∧ t.most = s.most
theorem sim_step {s t : Brs} (h : Sim s t) (x : Option (Bool × Bool)) : (s.step x = none ∧ t.step x = none) ∨ ∃ s' t', s.step x = some s' ∧ t.step x = some t' ∧ Sim s' t' := by
  obtain ⟨h1, h2⟩ := h
  have hl : t.stack.length = s.stack.length := by have := congrArg List.length h1; simpa using this
  match x with
  | none => exact .inr ⟨_, _, rfl, rfl, h1, h2⟩
  | some (true, b) => exact .inr ⟨_, _, rfl, rfl, by simp [h1], by show max t.most (t.stack.length + 1) = max s.most (s.stack.length + 1); rw [h2, hl]⟩
  | some (false, b) =>
    cases hs : s.stack with
    | nil =>
      rw [hs] at h1
      have ht : t.stack = [] := by simpa using h1
      exact .inl ⟨by simp [Brs.step, hs], by simp [Brs.step, ht]⟩
    | cons p r =>
      cases ht : t.stack with
      | nil => rw [hs, ht] at h1; simp at h1
      | cons q u =>
        rw [hs, ht] at h1
        simp only [List.map_cons, List.cons.injEq] at h1
        obtain ⟨p1, p2⟩ := p
        obtain ⟨q1, q2⟩ := q
        simp only at h1
        obtain ⟨rfl, h3⟩ := h1
        by_cases hb : q2 = b
        · exact .inr ⟨⟨r, (s.pairs.set p1 s.pairs.length) ++ [(p1 : Int)], s.deeps ++ [r.length], s.most⟩, ⟨u, (t.pairs.set q1 t.pairs.length) ++ [(q1 : Int)], t.deeps ++ [u.length], t.most⟩, by simp only [Brs.step, hs, if_pos hb], by simp only [Brs.step, ht, if_pos hb], h3, h2⟩
        · exact .inl ⟨by simp only [Brs.step, hs, if_neg hb], by simp only [Brs.step, ht, if_neg hb]⟩
theorem sim_run : ∀ (l : List (Option (Bool × Bool))) {s t : Brs}, Sim s t → codeR (s.run l) = codeR (t.run l)
  | [], s, t, h => by
    obtain ⟨h1, h2⟩ := h
    have : t.stack = [] ↔ s.stack = [] := by
      constructor
      · intro h; rw [h] at h1; simpa using h1.symm
      · intro h; rw [h] at h1; simpa using h1
    simp only [Brs.run, codeR, h2, this]
  | x :: l, s, t, h => by
    rcases sim_step h x with ⟨h1, h2⟩ | ⟨s', t', h1, h2, h3⟩
    · simp only [Brs.run, h1, h2, Option.bind_none]
    · simp only [Brs.run, h1, h2, Option.bind_some]
      exact sim_run l h3
theorem code_ahead {x : Tok} (hx : x.br = none) (l : List Tok) : codeOf (x :: l) = codeOf l := by
  rw [codeOf_eq (x :: l), codeOf_eq l]
  have e : brs (x :: l) = none :: brs l := by simp [brs, hx]
  rw [e]
  show codeR ((Brs.none0.step none).bind fun t => t.run (brs l)) = _
  exact (sim_run (brs l) (s := Brs.none0) (t := ⟨[], [-1], [0], 0⟩) ⟨rfl, rfl⟩).symm
theorem code_behind {x : Tok} (hx : x.br = none) (l : List Tok) : codeOf (l ++ [x]) = codeOf l := by
  rw [codeOf_eq, codeOf_eq]
  have e : brs (l ++ [x]) = brs l ++ [none] := by simp [brs, hx]
  rw [e, Brs.run_append]
  cases Brs.none0.run (brs l) with
  | none => rfl
  | some s => rfl

/-! ### The tokens between brackets -/
theorem isGrp_parts {b : List Tok} {g : ByteArray} (h : isGrp b g = true) : 2 ≤ b.length ∧ codeOf b = 0 ∧ codeOf (innerL b) = 0 ∧ (brsOf b).pr 0 = (b.length : Int) - 1 := by
  have h2 := isGrp_len h
  unfold isGrp at h
  simp only [Bool.and_eq_true, decide_eq_true_eq] at h
  obtain ⟨_, _, h3, h4⟩ := h
  unfold insideRes at h3 h4
  by_cases hc : codeOf b = 0
  · rw [if_pos hc] at h3 h4
    split at h3
    · rename_i hr
      rw [if_pos hr] at h4
      obtain ⟨a1, a2, a3⟩ := hr
      simp only [Int.toNat_zero] at a3 h4
      have hne : (brsOf b).pr 0 ≠ -1 := by omega
      obtain ⟨j, j1, j2, j3, j4, j5, j6, j7⟩ := Gz.partners_law hc (i := 0) (by omega) hne
      have hj : j = b.length - 1 := by
        rw [j1] at h4
        unfold Gz.seg at h4
        simp only [Int.toNat_natCast, List.length_take, List.length_drop] at h4
        omega
      refine ⟨h2, hc, ?_, by rw [j1]; omega⟩
      have e : between2 b (min 0 j) (max 0 j) = innerL b := by
        unfold between2 innerL
        have m1 : min 0 j = 0 := by omega
        have m2 : max 0 j = j := by omega
        rw [m1, m2, hj]
        congr 1
      rw [e] at j7
      exact j7
    · simp at h3
  · rw [if_neg hc] at h3
    exact absurd h3 hc

/-! ### Parts -/
def sumLen (ps : List (List Tok)) : Nat := (ps.map List.length).sum
theorem splitGo_sum (g : ByteArray) : ∀ (l : List Tok) (ds : List Nat) (cur : List Tok), sumLen (splitGo g l ds cur) ≤ cur.length + l.length ∧ 1 ≤ (splitGo g l ds cur).length
  | [], ds, cur => by unfold splitGo; simp [sumLen]
  | x :: l, [], cur => by unfold splitGo; simp [sumLen]
  | x :: l, d :: ds, cur => by
    unfold splitGo
    split
    · have h := splitGo_sum g l ds []
      simp only [sumLen, List.map_cons, List.sum_cons, List.length_cons, List.length_nil] at h ⊢
      omega
    · have h := splitGo_sum g l ds (cur ++ [x])
      simp only [sumLen, List.length_append, List.length_cons, List.length_nil] at h ⊢
      omega
theorem splitRes_sum (l : List Tok) (g : ByteArray) : sumLen (splitRes l g).1 ≤ l.length := by
  unfold splitRes
  split
  · have := (splitGo_sum g l (brsOf l).deeps []).1
    simpa [splitOf] using this
  · simp [sumLen]
theorem splitRes_some {l : List Tok} (g : ByteArray) (h : codeOf l = 0) : 1 ≤ (splitRes l g).1.length := by
  unfold splitRes
  rw [if_pos h]
  exact (splitGo_sum g l (brsOf l).deeps []).2

/-! ### Joined trees -/
theorem size_pos {s : ByteArray} (h : s ≠ noB) : 0 < s.size := by
  rcases Nat.eq_zero_or_pos s.size with h0 | h0
  · exfalso
    apply h
    obtain ⟨d⟩ := s
    have : d = #[] := Array.eq_empty_of_size_eq_zero h0
    subst this
    rfl
  · exact h0
theorem ends_len (l : List (List Nd)) : (endsOf 0 l).length = l.length := Nz.ends_length l 0
/-- A join that is told. -/
structure Jd (kind : Int) (text : ByteArray) (l : List (List Nd)) (out : List Nd) : Prop where
  is_ : joinP kind text l = .ok out
  right : rightN out = true
  size : out.length = sizeOfT l + 1
  root : out[out.length - 1]? = some ⟨kind, text, endsOf 0 l⟩
  body : out = bodyOf 0 l ++ [⟨kind, text, endsOf 0 l⟩]
  kid : ∀ (i : Nat) (t : List Nd), l[i]? = some t → Nz.kidN out (i : Int) = some t
theorem joined_ok {kind : Int} {text : ByteArray} {l : List (List Nd)} (h : ∀ t ∈ l, rightN t = true) (hf : formOk ⟨kind, text, endsOf 0 l⟩ = true) (hs : sizeOfT l + 1 ≤ 400) : ∃ out, Jd kind text l out := by
  have hj := joins h hf hs
  have hI := Nz.joined_is hj
  refine ⟨_, by unfold joinP; rw [hj], hI.right, hI.size, ?_, rfl, hI.kid⟩
  have e : (bodyOf 0 l ++ [(⟨kind, text, endsOf 0 l⟩ : Nd)]).length - 1 = (bodyOf 0 l).length := by simp
  rw [e, List.getElem?_append_right (Nat.le_refl _), Nat.sub_self]
  rfl
theorem jd_of {kind : Int} {text : ByteArray} {l : List (List Nd)} {out : List Nd} (h : joinP kind text l = .ok out) : Jd kind text l out := by
  unfold joinP at h
  cases hj : joinN kind text l with
  | none => rw [hj] at h; cases h
  | some o =>
    rw [hj] at h
    cases h
    have hI := Nz.joined_is hj
    obtain ⟨e, _, _⟩ := Nz.joinN_eq hj
    refine ⟨by unfold joinP; rw [hj], hI.right, hI.size, ?_, e, hI.kid⟩
    rw [e]
    have e : (bodyOf 0 l ++ [(⟨kind, text, endsOf 0 l⟩ : Nd)]).length - 1 = (bodyOf 0 l).length := by simp
    rw [e, List.getElem?_append_right (Nat.le_refl _), Nat.sub_self]
    rfl
def rootFun (t : List Nd) : Bool := isFunAt t (t.length - 1)
theorem Jd.fun_other {kind : Int} {text : ByteArray} {l : List (List Nd)} {out : List Nd} (h : Jd kind text l out) (hk : kind ≠ 5) : rootFun out = (decide (kind = 9) || (decide (kind = 14) || (decide (kind = 10) || decide (kind = 11)))) := isFunAt_other h.root hk
theorem moved_zero (t : List Nd) : movedN 0 t = t := by
  unfold movedN
  have e : (fun (x : Nd) => { x with kids := x.kids.map (· + (0 : Int)) }) = id := funext fun x => by simp
  rw [e, List.map_id]
theorem body_one (t : List Nd) : bodyOf 0 [t] = t := by
  unfold bodyOf
  have e : movedN ((0 : Nat) : Int) t = t := moved_zero t
  rw [e]
  simp [bodyOf]
theorem isFunF_pre {t : List Nd} (h : nodesOk 0 t = true) (r : List Nd) : ∀ (f i : Nat), i < t.length → isFunF (t ++ r) f i = isFunF t f i
  | 0, _, _ => rfl
  | f + 1, i, hi => by
    have g := List.getElem?_eq_getElem hi
    have g2 : (t ++ r)[i]? = some t[i] := by rw [List.getElem?_append_left hi]; exact g
    unfold isFunF
    simp only [Int.toNat_natCast, nodeAt_some g, nodeAt_some g2]
    split
    · rename_i hk
      have hf := (nodesOk_at h g).2
      have hne : 1 ≤ (t[i]).kids.length := by
        unfold formOk at hf
        rw [hk] at hf
        simp [Nz.formAt] at hf
        omega
      have hmem : (t[i]).kids.getD 0 0 ∈ (t[i]).kids := by
        rw [Nz.getD_lt (by omega)]
        exact List.getElem_mem _
      have hr := nodes_kid h hi (k := (t[i]).kids.getD 0 0) (by rw [nodeAt_some g]; exact hmem)
      have e : (((t[i]).kids.getD 0 0).toNat : Int) = (t[i]).kids.getD 0 0 := by omega
      rw [← e]
      exact isFunF_pre h r f _ (by omega)
    · rfl
theorem Jd.fun_paren {text : ByteArray} {t out : List Nd} (h : Jd 5 text [t] out) (ht : rightN t = true) : rootFun out = rootFun t := by
  obtain ⟨r1, _, hok, _⟩ := rightN_parts ht
  obtain ⟨_, _, ook, _⟩ := rightN_parts h.right
  obtain ⟨j, hj, hlt, he⟩ := isFunAt_paren ook h.root rfl
  have e1 : endsOf 0 [t] = [(t.length : Int) - 1] := by simp [endsOf]
  rw [e1] at hj
  have hj2 : (j : Int) = (t.length : Int) - 1 := by simpa using hj.symm
  have hb := h.body
  rw [body_one] at hb
  unfold rootFun
  rw [he]
  have hjt : j = t.length - 1 := by omega
  subst hjt
  unfold isFunAt
  rw [hb]
  exact isFunF_pre hok _ _ _ (by omega)
theorem Jd.binds {text : ByteArray} {t out : List Nd} (h : Jd 8 text [t] out) (ht : rightN t = true) : bindsN out = some ⟨text, rootFun t⟩ := by
  obtain ⟨r1, _, hok, _⟩ := rightN_parts ht
  obtain ⟨_, _, ook, _⟩ := rightN_parts h.right
  have hb := h.body
  rw [body_one] at hb
  have e1 : endsOf 0 [t] = [(t.length : Int) - 1] := by simp [endsOf]
  have hsz := h.size
  have hs1 : sizeOfT [t] = t.length := by simp [sizeOfT]
  unfold bindsN
  rw [if_pos h.right]
  simp only [nodeAt_some h.root]
  rw [if_pos trivial, e1]
  have e2 : ([(t.length : Int) - 1] : List Int).getD 0 0 = ((t.length - 1 : Nat) : Int) := by simp; omega
  rw [e2, isFunF_more ook out.length out.length (t.length - 1) (by omega) (by omega) (by omega)]
  have e3 : isFunAt out (t.length - 1) = rootFun t := by
    unfold rootFun isFunAt
    rw [hb]
    exact isFunF_pre hok _ _ _ (by omega)
  rw [e3]
end Go.Proofs.YtebejlnegalokaaGreatDoor
