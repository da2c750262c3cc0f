/-
  The laws of layer 8, plainly: parentheses, names that are made.
-/
import Derived.Test.YtebejlnegalokaaGreatDoorPaY
set_option linter.unusedSimpArgs false
set_option linter.unusedVariables false
namespace Go.Proofs.YtebejlnegalokaaGreatDoor
open Go.RowKit
open Gz (Tok Brs brs codeOf brsOf matchOf splitGo splitOf splitRes insideRes gPar gPas gCur gCus)
open Nz (Nd rightN joinN kidN)

/-! ### Parentheses -/
def tPar : Tok := ⟨8, gPar, gPar⟩
def tPas : Tok := ⟨8, gPas, gPas⟩
def wrapT (l : List Tok) : List Tok := tPar :: l ++ [tPas]
theorem wrap_len (l : List Tok) : (wrapT l).length = l.length + 2 := by simp [wrapT]
theorem wrap_inner (l : List Tok) : innerL (wrapT l) = l := by
  unfold innerL
  rw [wrap_len]
  simp [wrapT]
theorem wrap_last (l : List Tok) : (wrapT l)[l.length + 1]? = some tPas := by
  unfold wrapT
  rw [List.cons_append, List.getElem?_cons_succ, List.getElem?_append_right (Nat.le_refl _), Nat.sub_self]
  rfl
theorem wrap_pairs {l : List Tok} (h : codeOf (wrapT l) = 0) (hl : codeOf l = 0) : (brsOf (wrapT l)).pr 0 = (l.length : Int) + 1 ∧ (brsOf (wrapT l)).pr (l.length + 1) = 0 := by
  obtain ⟨r1, r2, r3⟩ := Gz.codeOf_ok hl
  obtain ⟨c1, c2, c3⟩ := Gz.wraps_law (x := tPar) (y := tPas) (by decide) (by decide) r1 r2
  have e0 : (brsOf (wrapT l)).pr 0 = (l.length : Int) + 1 := c3
  have hlen := wrap_len l
  obtain ⟨j, j1, j2, j3, j4, _⟩ := Gz.partners_law h (i := 0) (by omega) (by omega)
  have : j = l.length + 1 := by omega
  subst this
  exact ⟨e0, by rw [j4]; rfl⟩
theorem wrap_grp {l : List Tok} (h : codeOf (wrapT l) = 0) (hl : codeOf l = 0) : isGrp (wrapT l) gPar = true ∧ isGrp (wrapT l) gCur = false ∧ lastAt (wrapT l) = 0 ∧ cutN (wrapT l) = (wrapT l).length := by
  obtain ⟨p1, p2⟩ := wrap_pairs h hl
  have hlen := wrap_len l
  refine ⟨?_, ?_, ?_, ?_⟩
  · have hr : insideRes (wrapT l) 0 = (Gz.seg (wrapT l) 1 (l.length + 1), 0) := by
      unfold insideRes
      have hc : (0 : Int) ≤ 0 ∧ (0 : Int) < ((wrapT l).length : Int) ∧ (0 : Int) ≤ (brsOf (wrapT l)).pr (0 : Int).toNat := ⟨by omega, by omega, by show (0 : Int) ≤ (brsOf (wrapT l)).pr 0; omega⟩
      rw [if_pos h, if_pos hc]
      show (Gz.seg (wrapT l) (0 + 1) ((brsOf (wrapT l)).pr 0).toNat, (0 : Int)) = _
      rw [p1]
      rfl
    unfold isGrp
    rw [hr]
    have hs : (Gz.seg (wrapT l) 1 (l.length + 1)).length = l.length := by
      unfold Gz.seg
      simp only [List.length_take, List.length_drop]
      omega
    have h0 : (wrapT l)[0]? = some tPar := rfl
    rw [h0, hs]
    simp only [Option.any_some, Bool.and_eq_true, decide_eq_true_eq]
    exact ⟨by omega, by decide, trivial, by omega⟩
  · unfold isGrp
    have h0 : (wrapT l)[0]? = some tPar := rfl
    rw [h0]
    have : tPar.isSign gCur = false := by decide
    simp [this]
  · unfold lastAt
    have e1 : (wrapT l).length - 1 = l.length + 1 := by omega
    have e2 : (matchOf (wrapT l)).getD (l.length + 1) (-1) = 0 := by rw [brsOf_pairs h]; exact p2
    have c : codeOf (wrapT l) = 0 ∧ (0 : Int) ≤ 0 := ⟨h, Int.le_refl _⟩
    rw [e1, e2, if_pos c]
    rfl
  · unfold cutN
    rw [hlen]
    exact cutGo_stop (wrap_last l) (by decide)
theorem wrap_fn {env : List Bd} {l : List Tok} (h : codeOf (wrapT l) = 0) (hl : codeOf l = 0) : isFn env (wrapT l) = isFn env l := by
  obtain ⟨g1, g2, g3, g4⟩ := wrap_grp h hl
  have hlen := wrap_len l
  rw [isFn_eq, g4, List.take_length, if_neg (by omega), g1, g2, wrap_inner]
  rfl
theorem last_none {l : List Tok} {x : Tok} (hx : x.br = none) (h : codeOf (l ++ [x]) = 0) : (brsOf (l ++ [x])).pr l.length = -1 := by
  obtain ⟨r1, _, _⟩ := Gz.codeOf_ok h
  have e : brs (l ++ [x]) = brs l ++ [none] := by simp [brs, hx]
  have r2 := r1
  rw [e, Brs.run_append] at r2
  cases hr : Brs.none0.run (brs l) with
  | none => rw [hr] at r2; cases r2
  | some s =>
    rw [hr] at r2
    have hs := (Gz.fine_of_run hr).len
    have hb : (brs l).length = l.length := by simp [brs]
    have r3 : some (⟨s.stack, s.pairs ++ [-1], s.deeps ++ [s.stack.length], s.most⟩ : Brs) = some (brsOf (l ++ [x])) := r2
    rw [← Option.some.inj r3]
    unfold Gz.Brs.pr
    simp only
    rw [List.getD_eq_getElem?_getD, List.getElem?_append_right (by omega), show l.length - s.pairs.length = 0 by omega]
    rfl
/-- What looks like a function is no value. -/
theorem fn_no_val {env : List Bd} {inner : Bool} {l : List Tok} (h : isFn env l = true) : valAt env inner l = none := by
  have h1 := fun_pos h
  have g := List.getElem?_eq_getElem (l := l) (i := l.length - 1) (by omega)
  have hc1 := cutN_le l
  have hc0 := cutN_pos h1
  unfold valAt
  rw [g]
  simp only
  by_cases h7 : (l[l.length - 1]'(by omega)).kind = 7
  · rw [if_neg (by omega), if_neg (by omega), if_neg (by omega), if_neg (by omega), if_neg (by omega)]
  · -- no operator at the end: nothing is cut
    have hcut : cutN l = l.length := by
      unfold cutN
      have := cutGo_stop g h7
      rw [show l.length - 1 + 1 = l.length by omega] at this
      exact this
    have hf := h
    rw [isFn_eq, hcut, List.take_length] at hf
    by_cases hone : l.length = 1
    · rw [if_pos hone] at hf
      unfold one1 at hf
      have e0 : l[0]? = some (l[l.length - 1]'(by omega)) := by rw [← g]; congr 1; omega
      rw [e0] at hf
      simp only [Option.any_some] at hf
      by_cases h5 : (l[l.length - 1]'(by omega)).kind = 5
      · rw [if_pos h5] at hf
        rw [if_neg (by omega), if_neg (by omega), if_neg (by omega), if_pos h5, if_pos hf]
      · rw [if_neg h5] at hf
        have h6 : (l[l.length - 1]'(by omega)).kind = 6 := by simpa using hf
        rw [if_neg (by omega), if_neg (by omega), if_neg (by omega), if_neg (by omega), if_neg (by omega)]
    · rw [if_neg hone] at hf
      -- brackets around
      have hg : ∃ g, isGrp l g = true := by
        cases hc : isGrp l gCur with
        | true => exact ⟨_, hc⟩
        | false =>
          rw [hc, Bool.false_or, Bool.and_eq_true] at hf
          exact ⟨_, hf.1⟩
      obtain ⟨gg, hg⟩ := hg
      obtain ⟨q1, q2, q3, q4⟩ := isGrp_parts hg
      obtain ⟨j, j1, j2, j3, j4, _⟩ := Gz.partners_law q2 (i := 0) (by omega) (by omega)
      have hj : j = l.length - 1 := by omega
      subst hj
      have hla : lastAt l = 0 := by
        unfold lastAt
        have e2 : (matchOf l).getD (l.length - 1) (-1) = 0 := by rw [brsOf_pairs q2]; exact j4
        have c : codeOf l = 0 ∧ (0 : Int) ≤ 0 := ⟨q2, Int.le_refl _⟩
        rw [e2, if_pos c]
        rfl
      -- the last token closes: it is a sign
      have h8 : (l[l.length - 1]'(by omega)).kind = 8 := by
        by_cases h8 : (l[l.length - 1]'(by omega)).kind = 8
        · exact h8
        · exfalso
          have hbr : (l[l.length - 1]'(by omega)).br = none := by unfold Gz.Tok.br; rw [if_neg h8]
          have el : l = l.take (l.length - 1) ++ [l[l.length - 1]'(by omega)] := by
            have := List.take_succ_eq_append_getElem (l := l) (i := l.length - 1) (by omega)
            rw [show l.length - 1 + 1 = l.length by omega, List.take_length] at this
            exact this
          have ht : (l.take (l.length - 1)).length = l.length - 1 := by rw [List.length_take]; omega
          have hn := last_none (l := l.take (l.length - 1)) hbr (by rw [← el]; exact q2)
          rw [← el, ht, j4] at hn
          omega
      rw [if_neg (by omega), if_neg (by omega), if_neg (by omega), if_neg (by omega), if_pos h8, hla, List.drop_zero, h]
      simp

theorem wrap_expr {q : Pz} {env : List Bd} {inner : Bool} {l : List Tok} (h : codeOf (wrapT l) = 0) (hl : codeOf l = 0) : exprP q env inner (wrapT l) = if isFn env l then .error true else (match q.expr env inner l with | .error e => .error e | .ok t => joinP 5 noB [t]) := by
  obtain ⟨g1, g2, g3, g4⟩ := wrap_grp h hl
  have hf := wrap_fn (env := env) h hl
  have hlen := wrap_len l
  have e1 : (wrapT l).length - 1 = l.length + 1 := by omega
  have hv : valAt env inner (wrapT l) = if isFn env l then none else some 0 := by
    unfold valAt
    rw [e1, wrap_last]
    simp only
    rw [if_neg (by decide), if_neg (by decide), if_neg (by decide), if_neg (by decide), if_pos (by decide), g3, List.drop_zero, g1, hf]
    cases isFn env l <;> rfl
  unfold exprP
  rw [hv]
  cases hi : isFn env l with
  | true => rfl
  | false =>
    simp only [Bool.false_eq_true, if_false, List.drop_zero, List.take_zero]
    have hva : valP q env inner (wrapT l) = (match q.expr env inner l with | .error e => .error e | .ok t => joinP 5 noB [t]) := by
      show valP q env inner (tPar :: (l ++ [tPas])) = _
      unfold valP
      simp only
      rw [if_neg (by decide), if_neg (by decide), if_neg (by decide), if_neg (by decide)]
      rw [show innerL (tPar :: (l ++ [tPas])) = l from wrap_inner l]
      rfl
    rw [hva]
    cases q.expr env inner l with
    | error e => rfl
    | ok t =>
      simp only
      cases joinP 5 noB [t] with
      | error e => rfl
      | ok u => simp [exprGo]
theorem wrap_fun {q : Pz} {env : List Bd} {inner : Bool} {l : List Tok} (h : codeOf (wrapT l) = 0) (hl : codeOf l = 0) : funP q env inner (wrapT l) = if isFn env l then (match q.fn env inner l with | .error e => .error e | .ok t => joinP 5 noB [t]) else .error true := by
  obtain ⟨g1, g2, g3, g4⟩ := wrap_grp h hl
  have hf := wrap_fn (env := env) h hl
  unfold funP
  rw [hf, g4, List.take_length, List.drop_length]
  cases isFn env l with
  | false => rfl
  | true =>
    simp only [if_true]
    unfold baseP
    rw [g2, g1, if_neg (by simp), if_pos rfl, wrap_inner]
    cases q.fn env inner l with
    | error e => rfl
    | ok t =>
      simp only
      cases joinP 5 noB [t] <;> rfl
theorem fun_is {q : Pz} {env : List Bd} {inner : Bool} {l : List Tok} {t : List Nd} (h : funP q env inner l = .ok t) : isFn env l = true := by
  unfold funP at h
  cases hf : isFn env l with
  | true => rfl
  | false => rw [hf] at h; cases h
theorem expr_not {q : Pz} {env : List Bd} {inner : Bool} {l : List Tok} {t : List Nd} (h : exprP q env inner l = .ok t) : isFn env l = false := by
  cases hf : isFn env l with
  | false => rfl
  | true =>
    unfold exprP at h
    rw [fn_no_val hf] at h
    cases h
theorem paren_ok {n : Nat} {F : List Nd → Prop} {t : List Nd} (h : Res n F (.ok t)) (hn : n ≤ 100) : ∃ out, Jd 5 noB [t] out :=
  joined_ok (fun u hu => by cases List.mem_singleton.1 hu; exact h.ok.1) (form_is (by decide : Nz.formAt 5 = some (1, 1, false)) (by simp) (by simp) no_text) (by rw [size1]; have := h.ok.2.1; omega)
theorem check_wrap {l : List Tok} (h : l.length ≤ 60) : checkOf (wrapT l) = if l.all isTok then codeOf (wrapT l) else 81 := by
  rw [check_is (by rw [wrap_len]; omega)]
  have e : (wrapT l).all isTok = l.all isTok := by
    have e1 : isTok tPar = true := by decide
    have e2 : isTok tPas = true := by decide
    simp [wrapT, e1, e2]
  rw [e]
theorem wraps_law_p (k : Nat) (env : List Bd) (inner : Bool) {l : List Tok} (hl : l.length ≤ 60) (e f g h : List Nd × Int)
    (he : e = parseOf l ((pz (k + 1)).expr env inner l)) (hf : f = parseOf (wrapT l) ((pz (k + 2)).expr env inner (wrapT l))) (hg : g = parseOf l ((pz (k + 1)).fn env inner l)) (hh : h = parseOf (wrapT l) ((pz (k + 2)).fn env inner (wrapT l))) :
    (e.2 = 60 ∧ g.2 = 60) ∨ (e.2 ≠ 60 ∧ ¬ (e.2 = 0 ∧ g.2 = 0) ∧ (e.2 = 0 → f.2 = 0 → kidN f.1 0 = some e.1 ∧ f.1.length = e.1.length + 1 ∧ h.2 ≠ 0) ∧ (g.2 = 0 → h.2 = 0 → kidN h.1 0 = some g.1 ∧ h.1.length = g.1.length + 1 ∧ f.2 ≠ 0) ∧ (e.2 = 0 ∨ f.2 ≠ 0) ∧ (g.2 = 0 ∨ h.2 ≠ 0)) := by
  have hci := check_is (l := l) (by omega)
  have hcw := check_wrap hl
  by_cases hc : checkOf l = 0
  · right
    obtain ⟨hT, hcode, _⟩ := check_toks hc
    have hall : l.all isTok = true := List.all_eq_true.2 hT
    rw [hall, if_pos rfl] at hcw
    have hX : ∀ t, (pz (k + 1)).expr env inner l = .ok t → isFn env l = false := fun t ht => expr_not (q := pz k) ht
    have hY : ∀ t, (pz (k + 1)).fn env inner l = .ok t → isFn env l = true := fun t ht => fun_is (q := pz k) ht
    have hRx := (pz_res (k + 1) env inner l hT (by omega)).1
    have hRy := (pz_res (k + 1) env inner l hT (by omega)).2.1
    have hex : e.2 = 0 → ∃ t, (pz (k + 1)).expr env inner l = .ok t ∧ e = (t, 0) := fun h0 => by
      rw [he] at h0
      obtain ⟨_, t, ht, h1⟩ := parse_ok h0
      exact ⟨t, ht, he.trans h1⟩
    have hgx : g.2 = 0 → ∃ t, (pz (k + 1)).fn env inner l = .ok t ∧ g = (t, 0) := fun h0 => by
      rw [hg] at h0
      obtain ⟨_, t, ht, h1⟩ := parse_ok h0
      exact ⟨t, ht, hg.trans h1⟩
    have h60 : e.2 ≠ 60 := by
      rw [he]
      unfold parseOf
      rw [if_pos hc]
      cases hx : (pz (k + 1)).expr env inner l with
      | ok t => simp [codeP]
      | error b => cases b <;> simp [codeP]
    have hboth : ¬ (e.2 = 0 ∧ g.2 = 0) := fun hh2 => by
      obtain ⟨t, ht, _⟩ := hex hh2.1
      obtain ⟨u, hu, _⟩ := hgx hh2.2
      have h1 := hX t ht
      rw [hY u hu] at h1
      cases h1
    by_cases hw : codeOf (wrapT l) = 0
    · have hcw0 : checkOf (wrapT l) = 0 := by rw [hcw]; exact hw
      have eF : (pz (k + 2)).expr env inner (wrapT l) = if isFn env l then .error true else (match (pz (k + 1)).expr env inner l with | .error e => .error e | .ok t => joinP 5 noB [t]) := wrap_expr (q := pz (k + 1)) hw hcode
      have eH : (pz (k + 2)).fn env inner (wrapT l) = if isFn env l then (match (pz (k + 1)).fn env inner l with | .error e => .error e | .ok t => joinP 5 noB [t]) else .error true := wrap_fun (q := pz (k + 1)) hw hcode
      rw [eF] at hf
      rw [eH] at hh
      cases hi : isFn env l with
      | true =>
        rw [hi, if_pos rfl] at hf hh
        have hf0 : f.2 ≠ 0 := by rw [hf]; exact parse_err
        have he0 : e.2 ≠ 0 := fun h0 => by
          obtain ⟨t, ht, _⟩ := hex h0
          rw [hX t ht] at hi
          cases hi
        refine ⟨h60, hboth, fun a => absurd a he0, fun a b => ?_, .inr hf0, ?_⟩
        · obtain ⟨t, ht, hgt⟩ := hgx a
          rw [ht] at hh hRy
          obtain ⟨out, J⟩ := paren_ok hRy (by omega)
          simp only at hh
          rw [J.is_, parse_good hcw0] at hh
          rw [hh, hgt]
          exact ⟨J.kid 0 t rfl, by have := J.size; rw [size1] at this; exact this, hf0⟩
        · cases hy : (pz (k + 1)).fn env inner l with
          | error b =>
            right
            rw [hh, hy]
            exact parse_err
          | ok t =>
            left
            rw [hg, hy, parse_good hc]
      | false =>
        rw [hi, if_neg (by simp)] at hf hh
        have hh0 : h.2 ≠ 0 := by rw [hh]; exact parse_err
        have hg0 : g.2 ≠ 0 := fun h0 => by
          obtain ⟨t, ht, _⟩ := hgx h0
          rw [hY t ht] at hi
          cases hi
        refine ⟨h60, hboth, fun a b => ?_, fun a => absurd a hg0, ?_, .inr hh0⟩
        · obtain ⟨t, ht, het⟩ := hex a
          rw [ht] at hf hRx
          obtain ⟨out, J⟩ := paren_ok hRx (by omega)
          simp only at hf
          rw [J.is_, parse_good hcw0] at hf
          rw [hf, het]
          exact ⟨J.kid 0 t rfl, by have := J.size; rw [size1] at this; exact this, hh0⟩
        · cases hx : (pz (k + 1)).expr env inner l with
          | error b =>
            right
            rw [hf, hx]
            exact parse_err
          | ok t =>
            left
            rw [he, hx, parse_good hc]
    · have hcw0 : checkOf (wrapT l) ≠ 0 := by rw [hcw]; exact hw
      have hf0 : f.2 ≠ 0 := by rw [hf, parse_bad hcw0]; exact hcw0
      have hh0 : h.2 ≠ 0 := by rw [hh, parse_bad hcw0]; exact hcw0
      exact ⟨h60, hboth, fun _ b => absurd b hf0, fun _ b => absurd b hh0, .inr hf0, .inr hh0⟩
  · have he1 : e.2 = checkOf l := by rw [he, parse_bad hc]
    have hg1 : g.2 = checkOf l := by rw [hg, parse_bad hc]
    by_cases h60 : checkOf l = 60
    · left
      exact ⟨he1.trans h60, hg1.trans h60⟩
    · right
      have hcw0 : checkOf (wrapT l) ≠ 0 := by
        rw [hcw]
        rw [hci] at hc h60
        cases ha : l.all isTok with
        | false => rw [if_neg (by simp)]; decide
        | true =>
          rw [ha, if_pos rfl] at hc h60
          rw [if_pos rfl]
          rcases Gz.codeOf_ways l with h0 | h0 | h0
          · exact absurd h0 hc
          · exact absurd h0 h60
          · have : codeOf (wrapT l) = 61 := Gz.wraps_none (x := tPar) (y := tPas) (by decide) (by decide) h0
            rw [this]
            decide
      have hf0 : f.2 ≠ 0 := by rw [hf, parse_bad hcw0]; exact hcw0
      have hh0 : h.2 ≠ 0 := by rw [hh, parse_bad hcw0]; exact hcw0
      have he0 : e.2 ≠ 0 := by rw [he1]; exact hc
      exact ⟨by rw [he1]; exact h60, fun a => he0 a.1, fun _ b => absurd b hf0, fun _ b => absurd b hh0, .inr hf0, .inr hh0⟩

/-! ### Names that are made -/
def tArr : Tok := ⟨8, gSet, gSet⟩
def setT (name : ByteArray) (l : List Tok) : List Tok := ⟨5, name, noB⟩ :: tArr :: l
theorem splitGo_one (g : ByteArray) : ∀ (l : List Tok) (ds : List Nat) (cur : List Tok), (∀ x ∈ l, x.isSign g = false) → (splitGo g l ds cur).length = 1
  | [], ds, cur, _ => by unfold splitGo; rfl
  | x :: l, [], cur, _ => by unfold splitGo; rfl
  | x :: l, d :: ds, cur, h => by
    unfold splitGo
    rw [if_neg (fun hh => by rw [h x List.mem_cons_self] at hh; cases hh.2.1)]
    exact splitGo_one g l ds _ (fun y hy => h y (List.mem_cons_of_mem _ hy))
theorem set_two {env : List Bd} {inner : Bool} (name : ByteArray) (k : Nat) : stmtP (pz (k + 1)) env inner (setT name []) = .error true := by
  have hm : makes (setT name []) = false := by unfold makes setT; rfl
  have hsgn : ∀ x ∈ setT name [], x.isSign gCol = false := by
    intro x hx
    unfold setT at hx
    rcases List.mem_cons.1 hx with rfl | hx
    · unfold Gz.Tok.isSign; rfl
    · cases List.mem_singleton.1 hx
      decide
  have hsp : ¬ ((splitRes (setT name []) gCol).1.length = 2 ∧ inner = true) := fun hh => by
    have h2 := hh.1
    unfold splitRes at h2
    split at h2
    · have := splitGo_one gCol (setT name []) (brsOf (setT name [])).deeps [] hsgn
      rw [show (splitOf (setT name []) gCol, (0 : Int)).1 = splitGo gCol (setT name []) (brsOf (setT name [])).deeps [] from rfl, this] at h2
      omega
    · simp at h2
  have hv : valAt env inner (setT name []) = none := by
    unfold valAt
    have e1 : (setT name [])[(setT name []).length - 1]? = some tArr := rfl
    rw [e1]
    simp only
    rw [if_neg (by decide), if_neg (by decide), if_neg (by decide), if_neg (by decide), if_pos (by decide)]
    have hlt := lastAt_lt (l := setT name []) (by unfold setT; simp)
    have hg : isGrp ((setT name []).drop (lastAt (setT name []))) gPar = false := by
      unfold isGrp
      have h0 : ((setT name []).drop (lastAt (setT name [])))[0]?.any (·.isSign gPar) = false := by
        rw [List.getElem?_drop, Nat.add_zero]
        have hl2 : (setT name []).length = 2 := rfl
        have : lastAt (setT name []) = 0 ∨ lastAt (setT name []) = 1 := by omega
        rcases this with h | h
        · rw [h]
          show Option.any (·.isSign gPar) (some (⟨5, name, noB⟩ : Tok)) = false
          unfold Gz.Tok.isSign
          rfl
        · rw [h]
          show Option.any (·.isSign gPar) (some tArr) = false
          decide
      rw [h0]
      simp
    rw [hg]
    rfl
  unfold stmtP
  rw [hm, if_neg (by simp), if_neg hsp]
  show exprP (pz k) env inner (setT name []) = _
  unfold exprP
  rw [hv]
theorem sets_law_p (k : Nat) (env : List Bd) (inner : Bool) (name : ByteArray) {l : List Tok} (hl : l.length ≤ 60) (T X Y : List Nd × Int)
    (hT : T = parseOf (setT name l) ((pz (k + 2)).stmt env inner (setT name l))) (hX : X = parseOf l ((pz (k + 1)).expr env inner l)) (hY : Y = parseOf l ((pz (k + 1)).fn env inner l)) :
    (T.2 ≠ 0 → T.1 = [] ∧ ((X.2 ≠ 0 ∧ Y.2 ≠ 0) ∨ name = noB ∨ 0 < l.length)) ∧
    (T.2 = 0 → ∃ t b, bindsN T.1 = some ⟨name, b⟩ ∧ kidN T.1 0 = some t ∧ (b = true → Y = (t, 0)) ∧ (b = false → X = (t, 0))) := by
  refine ⟨fun h => ⟨?_, ?_⟩, fun h => ?_⟩
  · have e : T.1 = [] := by
      rw [hT] at h ⊢
      unfold parseOf at h ⊢
      by_cases hc : checkOf (setT name l) = 0
      · rw [if_pos hc] at h ⊢
        cases hr : (pz (k + 2)).stmt env inner (setT name l) with
        | ok t => rw [hr] at h; exact absurd rfl h
        | error b => rfl
      · rw [if_neg hc]
    exact e
  · cases l with
    | cons x l => right; right; simp
    | nil =>
      left
      refine ⟨?_, ?_⟩
      · rw [hX]
        have e : (pz (k + 1)).expr env inner [] = .error true := rfl
        rw [e]
        exact parse_err
      · rw [hY]
        have e : (pz (k + 1)).fn env inner [] = .error true := by
          show funP (pz k) env inner [] = _
          unfold funP
          cases hf : isFn env [] with
          | true => have := fun_pos hf; simp at this
          | false => rfl
        rw [e]
        exact parse_err
  · rw [hT] at h
    obtain ⟨hc, t, ht, h1⟩ := parse_ok h
    obtain ⟨htk, hcode, _⟩ := check_toks hc
    have hn : isTok (⟨5, name, noB⟩ : Tok) = true := htk _ List.mem_cons_self
    have hca : checkOf (tArr :: l) = checkOf l := check_ahead (by omega) (by decide) (by decide)
    have hcs : checkOf (setT name l) = checkOf (tArr :: l) := by
      rw [check_is (by unfold setT; simp; omega), check_is (by simp; omega)]
      have e1 : codeOf (setT name l) = codeOf (tArr :: l) := code_ahead (by unfold Gz.Tok.br; rfl) _
      have e2 : (setT name l).all isTok = (tArr :: l).all isTok := by unfold setT; rw [List.all_cons, hn, Bool.true_and]
      rw [e1, e2]
    have hc0 : checkOf l = 0 := by rw [← hca, ← hcs]; exact hc
    obtain ⟨hTl, _, _⟩ := check_toks hc0
    cases l with
    | nil =>
      exfalso
      have e : (pz (k + 2)).stmt env inner (setT name []) = .error true := set_two (env := env) (inner := inner) name k
      rw [e] at ht
      cases ht
    | cons y l' =>
      generalize hll : y :: l' = l at *
      have h2 : 2 < (setT name l).length := by rw [← hll]; simp [setT]
      have hm : makes (setT name l) = true := by
        unfold makes
        rw [decide_eq_true h2]
        rfl
      have hd : (setT name l).drop 2 = l := rfl
      have e : (pz (k + 2)).stmt env inner (setT name l) = setFin name (if isFn env l then (pz (k + 1)).fn env inner l else (pz (k + 1)).expr env inner l) := by
        show stmtP (pz (k + 1)) env inner (setT name l) = _
        unfold stmtP
        rw [hm, if_pos rfl, hd]
        rfl
      rw [e] at ht
      have hR := pz_res (k + 1) env inner l hTl (by omega)
      cases hi : isFn env l with
      | true =>
        rw [hi, if_pos rfl] at ht
        cases hy : (pz (k + 1)).fn env inner l with
        | error b => rw [hy] at ht; cases ht
        | ok u =>
          rw [hy] at ht
          have J := jd_of (show joinP 8 name [u] = .ok t from ht)
          have hu := hR.2.1
          rw [hy] at hu
          obtain ⟨u1, u2, u3⟩ := hu.ok
          refine ⟨u, true, ?_, ?_, fun _ => ?_, fun hb => by cases hb⟩
          · rw [hT, h1]
            show bindsN t = _
            rw [J.binds u1, u3]
          · rw [hT, h1]
            exact J.kid 0 u rfl
          · rw [hY, hy, parse_good hc0]
      | false =>
        rw [hi, if_neg (by simp)] at ht
        cases hy : (pz (k + 1)).expr env inner l with
        | error b => rw [hy] at ht; cases ht
        | ok u =>
          rw [hy] at ht
          have J := jd_of (show joinP 8 name [u] = .ok t from ht)
          have hu := hR.1
          rw [hy] at hu
          obtain ⟨u1, u2, u3⟩ := hu.ok
          refine ⟨u, false, ?_, ?_, (by intro hb; cases hb), fun _ => ?_⟩
          · rw [hT, h1]
            show bindsN t = _
            rw [J.binds u1, u3]
          · rw [hT, h1]
            exact J.kid 0 u rfl
          · rw [hX, hy, parse_good hc0]
end Go.Proofs.YtebejlnegalokaaGreatDoor
