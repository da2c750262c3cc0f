/-
  The parser's trees are right, of few nodes; it never fails to join. Plainly.
-/
import Derived.Test.YtebejlnegalokaaGreatDoorPaV
set_option linter.unusedSimpArgs false
set_option linter.unusedVariables false
namespace Go.Proofs.YtebejlnegalokaaGreatDoor
open Go.RowKit
open Gz (Tok Brs brs codeOf brsOf matchOf splitGo splitOf splitRes insideRes gPar gPas gCur gCus)
open Nz (Nd rightN joinN nodesOk formOk formAt nodeAt bodyOf endsOf sizeOfT rightN_parts)

def Toks (l : List Tok) : Prop := ∀ x ∈ l, isTok x = true
theorem Toks.drop {l : List Tok} (h : Toks l) (n : Nat) : Toks (l.drop n) := fun x hx => h x (List.mem_of_mem_drop hx)
theorem Toks.take {l : List Tok} (h : Toks l) (n : Nat) : Toks (l.take n) := fun x hx => h x (List.mem_of_mem_take hx)
theorem Toks.inner {l : List Tok} (h : Toks l) : Toks (innerL l) := (h.drop 1).take _
theorem Toks.text {x : Tok} (h : isTok x = true) (hk : x.kind = 4 ∨ x.kind = 5) : x.text ≠ noB := by
  unfold isTok at h
  rw [if_neg (by omega), if_pos hk] at h
  simpa using h
theorem Toks.glyph {x : Tok} (h : isTok x = true) (hk : x.kind = 3 ∨ x.kind = 6 ∨ x.kind = 7 ∨ x.kind = 9) : x.glyph ≠ noB := by
  unfold isTok at h
  rw [if_pos hk] at h
  simpa using h

/-- Right, of few nodes; or no syntax. -/
def Res (n : Nat) (F : List Nd → Prop) (r : PR) : Prop := match r with
  | .ok t => rightN t = true ∧ t.length + 1 ≤ 2 * n ∧ F t
  | .error e => e = true
theorem Res.ok {n : Nat} {F : List Nd → Prop} {t : List Nd} (h : Res n F (.ok t)) : rightN t = true ∧ t.length + 1 ≤ 2 * n ∧ F t := h
theorem Res.er {n : Nat} {F : List Nd → Prop} {e : Bool} (h : Res n F (.error e)) : e = true := h
theorem form_is {kind : Int} {text : ByteArray} {l : List (List Nd)} {a b : Nat} {h : Bool} (hf : formAt kind = some (a, b, h)) (h1 : a ≤ l.length) (h2 : l.length ≤ b) (h3 : decide (0 < text.size) = h) : formOk ⟨kind, text, endsOf 0 l⟩ = true := by
  unfold formOk
  simp only [hf, ends_len, decide_eq_true h1, decide_eq_true h2, h3, Bool.true_and, beq_self_eq_true]
theorem no_text : decide (0 < noB.size) = false := by decide
theorem has_text {s : ByteArray} (h : s ≠ noB) : decide (0 < s.size) = true := decide_eq_true (size_pos h)
/-- A join of right trees. -/
theorem res_join {kind : Int} {text : ByteArray} {l : List (List Nd)} {n a b : Nat} {hx : Bool} {F : List Nd → Prop} (h : ∀ t ∈ l, rightN t = true) (hf : formAt kind = some (a, b, hx)) (h1 : a ≤ l.length) (h2 : l.length ≤ b) (h3 : decide (0 < text.size) = hx) (hs : sizeOfT l + 2 ≤ 2 * n) (hn : n ≤ 150) (hF : ∀ out, Jd kind text l out → F out) : Res n F (joinP kind text l) := by
  obtain ⟨out, J⟩ := joined_ok h (form_is hf h1 h2 h3) (by omega)
  rw [J.is_]
  exact ⟨J.right, by have := J.size; omega, hF out J⟩

/-- What the methods of a parser give, whatever the tokens. -/
def HP (p : Pz) : Prop := ∀ (env : List Bd) (inner : Bool) (l : List Tok), Toks l → l.length ≤ 100 →
  Res l.length (fun t => rootFun t = false) (p.expr env inner l) ∧ Res l.length (fun t => rootFun t = true) (p.fn env inner l) ∧ Res l.length (fun _ => True) (p.stmt env inner l)
theorem size1 (t : List Nd) : sizeOfT [t] = t.length := by simp [sizeOfT]
theorem size2 (t u : List Nd) : sizeOfT [t, u] = t.length + u.length := by simp [sizeOfT]
theorem size3 (t u v : List Nd) : sizeOfT [t, u, v] = t.length + (u.length + v.length) := by simp [sizeOfT]
theorem joinG_ne {x : ByteArray} (h : x ≠ noB) : ∀ l, joinG (x :: l) ≠ noB := by
  have hp := size_pos h
  intro l e
  cases l with
  | nil => exact h e
  | cons y l =>
    have e1 : joinG (x :: y :: l) = x ++ ⟨#[32]⟩ ++ joinG (y :: l) := rfl
    have := congrArg ByteArray.size e
    rw [e1, ByteArray.size_append, ByteArray.size_append] at this
    have e2 : noB.size = 0 := rfl
    omega

theorem val_res {p : Pz} (hp : HP p) (env : List Bd) (inner : Bool) {l : List Tok} (h1 : 1 ≤ l.length) (hT : Toks l) (hl : l.length ≤ 100)
    (hv : ∀ x, l[0]? = some x → x.kind ≠ 3 → x.kind ≠ 4 → x.kind ≠ 9 → x.kind ≠ 5 → 2 ≤ l.length) : Res l.length (fun t => rootFun t = false) (valP p env inner l) := by
  cases l with
  | nil => simp at h1
  | cons x r =>
    have hx := hT x List.mem_cons_self
    have hvx := hv x rfl
    have hs0 : sizeOfT ([] : List (List Nd)) = 0 := rfl
    unfold valP
    simp only
    by_cases h3 : x.kind = 3
    · rw [if_pos h3]
      exact res_join (fun t ht => by simp at ht) (by decide : formAt 1 = some (0, 0, true)) (by simp) (by simp) (has_text (joinG_ne (Toks.glyph hx (.inl h3)) _)) (by rw [hs0]; omega) (by omega) (fun out J => by rw [J.fun_other (by decide)]; decide)
    · rw [if_neg h3]
      by_cases h4 : x.kind = 4
      · rw [if_pos h4]
        exact res_join (fun t ht => by simp at ht) (by decide : formAt 2 = some (0, 0, true)) (by simp) (by simp) (has_text (Toks.text hx (.inl h4))) (by rw [hs0]; omega) (by omega) (fun out J => by rw [J.fun_other (by decide)]; decide)
      · rw [if_neg h4]
        by_cases h9 : x.kind = 9
        · rw [if_pos h9]
          exact res_join (fun t ht => by simp at ht) (by decide : formAt 4 = some (0, 0, true)) (by simp) (by simp) (has_text (Toks.glyph hx (by omega))) (by rw [hs0]; omega) (by omega) (fun out J => by rw [J.fun_other (by decide)]; decide)
        · rw [if_neg h9]
          by_cases h5 : x.kind = 5
          · rw [if_pos h5]
            exact res_join (fun t ht => by simp at ht) (by decide : formAt 3 = some (0, 0, true)) (by simp) (by simp) (has_text (Toks.text hx (.inr h5))) (by rw [hs0]; omega) (by omega) (fun out J => by rw [J.fun_other (by decide)]; decide)
          · rw [if_neg h5]
            have h2 := hvx h3 h4 h9 h5
            have hil := innerL_len (x :: r)
            have hi := (hp env inner (innerL (x :: r)) hT.inner (by omega)).1
            cases hr : p.expr env inner (innerL (x :: r)) with
            | error e => rw [hr] at hi; exact hi
            | ok t =>
              rw [hr] at hi
              obtain ⟨r1, r2, r3⟩ := hi.ok
              exact res_join (fun u hu => by cases List.mem_singleton.1 hu; exact r1) (by decide : formAt 5 = some (1, 1, false)) (by simp) (by simp) no_text (by rw [size1]; omega) (by omega) (fun out J => by rw [J.fun_paren r1]; exact r3)

/-- What an application gives. -/
def ResA (l : List Tok) (m : Nat) (r : Except Bool (List Nd × List Tok)) : Prop := match r with
  | .ok (t, l') => rightN t = true ∧ rootFun t = false ∧ l' = l.take l'.length ∧ l'.length < l.length ∧ t.length + 2 * l'.length ≤ m + 2 * l.length
  | .error e => e = true
theorem apply_res {p : Pz} (hp : HP p) (env : List Bd) (inner : Bool) {l : List Tok} {right : List Nd} (h1 : 1 ≤ l.length) (hT : Toks l) (hr : rightN right = true) (hs : right.length + 1 + 2 * l.length ≤ 200) : ResA l right.length (applyP p env inner l right) := by
  unfold applyP
  cases hf : funAt env l with
  | none => exact rfl
  | some a =>
    have ha := funAt_lt hf h1
    have hdl : (l.drop a).length = l.length - a := List.length_drop
    have hfn := (hp env inner (l.drop a) (hT.drop a) (by omega)).2.1
    simp only
    cases hrf : p.fn env inner (l.drop a) with
    | error e => rw [hrf] at hfn; exact hfn
    | ok f =>
      rw [hrf] at hfn
      obtain ⟨f1, f2, f3⟩ := hfn.ok
      have htl : (l.take a).length = a := by rw [List.length_take]; omega
      simp only
      cases hv : valAt env inner (l.take a) with
      | none =>
        simp only
        have hj := res_join (n := 100 + 1) (F := fun t => rootFun t = false ∧ t.length = sizeOfT [f, right] + 1) (l := [f, right]) (fun u hu => by
          rcases List.mem_cons.1 hu with rfl | hu
          · exact f1
          · cases List.mem_singleton.1 hu; exact hr) (by decide : formAt 6 = some (2, 2, false)) (by simp) (by simp) no_text (by rw [size2]; omega) (by omega) (fun out J => ⟨by rw [J.fun_other (by decide)]; decide, J.size⟩)
        cases hjr : joinP 6 noB [f, right] with
        | error e => rw [hjr] at hj; exact hj
        | ok t =>
          rw [hjr] at hj
          obtain ⟨t1, t2, t3, t4⟩ := hj.ok
          rw [size2] at t4
          exact ⟨t1, t3, by rw [htl], by omega, by rw [htl]; omega⟩
      | some b =>
        obtain ⟨b1, b2⟩ := valAt_parts hv
        have hdb : ((l.take a).drop b).length = a - b := by rw [List.length_drop, htl]
        have hval := val_res hp env inner (l := (l.take a).drop b) (by omega) ((hT.take a).drop b) (by omega) b2
        simp only
        cases hrv : valP p env inner ((l.take a).drop b) with
        | error e => rw [hrv] at hval; exact hval
        | ok x =>
          rw [hrv] at hval
          obtain ⟨x1, x2, x3⟩ := hval.ok
          simp only
          have hj := res_join (n := 100 + 1) (F := fun t => rootFun t = false ∧ t.length = sizeOfT [x, f, right] + 1) (l := [x, f, right]) (fun u hu => by
            rcases List.mem_cons.1 hu with rfl | hu
            · exact x1
            · rcases List.mem_cons.1 hu with rfl | hu
              · exact f1
              · cases List.mem_singleton.1 hu; exact hr) (by decide : formAt 7 = some (3, 3, false)) (by simp) (by simp) no_text (by rw [size3]; omega) (by omega) (fun out J => ⟨by rw [J.fun_other (by decide)]; decide, J.size⟩)
          cases hjr : joinP 7 noB [x, f, right] with
          | error e => rw [hjr] at hj; exact hj
          | ok t =>
            rw [hjr] at hj
            obtain ⟨t1, t2, t3, t4⟩ := hj.ok
            rw [size3] at t4
            have htb : ((l.take a).take b).length = b := by rw [List.length_take, htl]; omega
            have e9 : (l.take a).take b = l.take b := by rw [List.take_take]; congr 1; omega
            exact ⟨t1, t3, by rw [htb]; exact e9, by omega, by rw [htb]; omega⟩
theorem exprGo_res {p : Pz} (hp : HP p) (env : List Bd) (inner : Bool) {n : Nat} (hn : n ≤ 100) : ∀ (k : Nat) (l : List Tok) (t : List Nd), Toks l → rightN t = true → rootFun t = false → t.length + 1 + 2 * l.length ≤ 2 * n → Res n (fun t => rootFun t = false) (exprGo p env inner k l t)
  | k, [], t, _, h1, h2, h3 => by
    have e : exprGo p env inner k [] t = .ok t := by simp [exprGo]
    rw [e]
    exact ⟨h1, by simpa using h3, h2⟩
  | 0, x :: l, t, _, _, _, _ => rfl
  | k + 1, x :: l, t, hT, h1, h2, h3 => by
    have ha := apply_res hp env inner (l := x :: l) (right := t) (by simp) hT h1 (by omega)
    unfold exprGo
    cases hr : applyP p env inner (x :: l) t with
    | error e => rw [hr] at ha; exact ha
    | ok tl =>
      obtain ⟨t', l'⟩ := tl
      rw [hr] at ha
      obtain ⟨a1, a2, a3, a4, a5⟩ := ha
      simp only
      exact exprGo_res hp env inner hn k l' t' (by rw [a3]; exact hT.take _) a1 a2 (by omega)
theorem expr_res {p : Pz} (hp : HP p) (env : List Bd) (inner : Bool) {l : List Tok} (hT : Toks l) (hl : l.length ≤ 100) : Res l.length (fun t => rootFun t = false) (exprP p env inner l) := by
  unfold exprP
  cases hv : valAt env inner l with
  | none => exact rfl
  | some a =>
    obtain ⟨a1, a2⟩ := valAt_parts hv
    have hd : (l.drop a).length = l.length - a := List.length_drop
    have htl : (l.take a).length = a := by rw [List.length_take]; omega
    have hval := val_res hp env inner (l := l.drop a) (by omega) (hT.drop a) (by omega) a2
    simp only
    cases hr : valP p env inner (l.drop a) with
    | error e => rw [hr] at hval; exact hval
    | ok t =>
      rw [hr] at hval
      obtain ⟨r1, r2, r3⟩ := hval.ok
      exact exprGo_res hp env inner hl _ _ _ (hT.take a) r1 r3 (by omega)

/-! ### Functions -/
theorem body_res {p : Pz} (hp : HP p) : ∀ (ps : List (List Tok)) (env : List Bd) (ks : List (List Nd)), (∀ q ∈ ps, Toks q ∧ q.length ≤ 100) → (∀ t ∈ ks, rightN t = true) →
    (match bodyGo p env ks ps with | .ok ks' => (∀ t ∈ ks', rightN t = true) ∧ ks'.length = ks.length + ps.length ∧ sizeOfT ks' + ps.length ≤ sizeOfT ks + 2 * sumLen ps | .error e => e = true)
  | [], env, ks, _, h => by
    unfold bodyGo
    exact ⟨h, by simp, by simp [sumLen]⟩
  | q :: ps, env, ks, hq, h => by
    have hs := (hp env true q (hq q List.mem_cons_self).1 (hq q List.mem_cons_self).2).2.2
    unfold bodyGo
    cases hr : p.stmt env true q with
    | error e => rw [hr] at hs; exact hs
    | ok t =>
      rw [hr] at hs
      obtain ⟨r1, r2, _⟩ := hs.ok
      simp only
      have ih := body_res hp ps (match bindsN t with | some b => env ++ [b] | none => env) (ks ++ [t]) (fun u hu => hq u (List.mem_cons_of_mem _ hu)) (fun u hu => by
        rcases List.mem_append.1 hu with hu | hu
        · exact h u hu
        · cases List.mem_singleton.1 hu; exact r1)
      cases hb : bodyGo p (match bindsN t with | some b => env ++ [b] | none => env) (ks ++ [t]) ps with
      | error e => rw [hb] at ih; exact ih
      | ok ks' =>
        rw [hb] at ih
        obtain ⟨i1, i2, i3⟩ := ih
        refine ⟨i1, by simp at i2 ⊢; omega, ?_⟩
        simp [sizeOfT, sumLen] at i3 ⊢
        omega
theorem base_res {p : Pz} (hp : HP p) (env : List Bd) (inner : Bool) {b : List Tok} (h1 : 1 ≤ b.length) (hT : Toks b) (hl : b.length ≤ 100) (hone : isGrp b gCur = false → isGrp b gPar = false → one1 env b = true) : Res b.length (fun t => rootFun t = true) (baseP p env inner b) := by
  unfold baseP
  have hil := innerL_len b
  cases hc : isGrp b gCur with
  | true =>
    rw [if_pos rfl]
    obtain ⟨g1, g2, g3, g4⟩ := isGrp_parts hc
    unfold bodyP
    have hpp := splitRes_parts (innerL b) gDia
    have hsum := splitRes_sum (innerL b) gDia
    have hsome := splitRes_some gDia g3
    have hb := body_res hp (splitRes (innerL b) gDia).1 env [] (fun q hq => ⟨fun x hx => hT.inner x ((hpp.2 q hq).2 x hx), by have := (hpp.2 q hq).1; omega⟩) (fun t ht => by simp at ht)
    cases hr : bodyGo p env [] (splitRes (innerL b) gDia).1 with
    | error e => rw [hr] at hb; exact hb
    | ok ks =>
      rw [hr] at hb
      obtain ⟨k1, k2, k3⟩ := hb
      simp only
      have hz : sizeOfT ([] : List (List Nd)) = 0 := rfl
      rw [hz] at k3
      have hk : ks.length ≤ 1048576 := by have := hpp.1; simp at k2; omega
      exact res_join k1 (by decide : formAt 11 = some (1, 1048576, false)) (by simp at k2; omega) hk no_text (by omega) (by omega) (fun out J => by rw [J.fun_other (by decide)]; decide)
  | false =>
    rw [if_neg (by simp)]
    cases hpa : isGrp b gPar with
    | true =>
      rw [if_pos rfl]
      obtain ⟨g1, g2, g3, g4⟩ := isGrp_parts hpa
      have hi := (hp env inner (innerL b) hT.inner (by omega)).2.1
      cases hr : p.fn env inner (innerL b) with
      | error e => rw [hr] at hi; exact hi
      | ok t =>
        rw [hr] at hi
        obtain ⟨r1, r2, r3⟩ := hi.ok
        exact res_join (fun u hu => by cases List.mem_singleton.1 hu; exact r1) (by decide : formAt 5 = some (1, 1, false)) (by simp) (by simp) no_text (by rw [size1]; omega) (by omega) (fun out J => by rw [J.fun_paren r1]; exact r3)
    | false =>
      rw [if_neg (by simp)]
      have ho := hone hc hpa
      have hs0 : sizeOfT ([] : List (List Nd)) = 0 := rfl
      cases b with
      | nil => simp at h1
      | cons x r =>
        have hx := hT x List.mem_cons_self
        have ho2 : (if x.kind = 5 then fnOf env x.text else decide (x.kind = 6)) = true := ho
        simp only
        by_cases h6 : x.kind = 6
        · rw [if_pos h6]
          exact res_join (fun t ht => by simp at ht) (by decide : formAt 9 = some (0, 0, true)) (by simp) (by simp) (has_text (Toks.glyph hx (by omega))) (by rw [hs0]; omega) (by omega) (fun out J => by rw [J.fun_other (by decide)]; decide)
        · rw [if_neg h6]
          have h5 : x.kind = 5 := by
            by_cases h5 : x.kind = 5
            · exact h5
            · rw [if_neg h5] at ho2
              simp [h6] at ho2
          exact res_join (fun t ht => by simp at ht) (by decide : formAt 14 = some (0, 0, true)) (by simp) (by simp) (has_text (Toks.text hx (.inr h5))) (by rw [hs0]; omega) (by omega) (fun out J => by rw [J.fun_other (by decide)]; decide)
theorem ops_res {n : Nat} (hn : n ≤ 100) : ∀ (l : List Tok) (r : PR) (m : Nat), (∀ x ∈ l, isTok x = true ∧ x.kind = 7) → m + l.length ≤ n → Res m (fun t => rootFun t = true) r → Res (m + l.length) (fun t => rootFun t = true) (opsGo r l)
  | [], r, m, _, _, h => by
    unfold opsGo
    exact h
  | x :: l, .error e, m, _, _, h => by
    rw [opsGo_error]
    exact h
  | x :: l, .ok t, m, hx, hm, h => by
    obtain ⟨r1, r2, r3⟩ := h.ok
    have hx0 := hx x List.mem_cons_self
    unfold opsGo
    have hj : Res (m + 1) (fun t => rootFun t = true) (joinP 10 x.glyph [t]) := res_join (fun u hu => by cases List.mem_singleton.1 hu; exact r1) (by decide : formAt 10 = some (1, 1, true)) (by simp) (by simp) (has_text (Toks.glyph hx0.1 (by omega))) (by rw [size1]; omega) (by simp at hm; omega) (fun out J => by rw [J.fun_other (by decide)]; decide)
    have := ops_res hn l (joinP 10 x.glyph [t]) (m + 1) (fun y hy => hx y (List.mem_cons_of_mem _ hy)) (by simp at hm; omega) hj
    have e : m + (x :: l).length = m + 1 + l.length := by simp; omega
    rw [e]
    exact this
theorem cutGo_ops (l : List Tok) : ∀ (n i : Nat) (x : Tok), n ≤ l.length → cutGo l n ≤ i → i < n → l[i]? = some x → x.kind = 7
  | 0, i, x, _, _, h, _ => by omega
  | 1, i, x, _, h1, h2, _ => by
    have : cutGo l 1 = 1 := rfl
    omega
  | n + 2, i, x, hn, h1, h2, hx => by
    have g := List.getElem?_eq_getElem (l := l) (i := n + 1) (by omega)
    by_cases h7 : (l[n + 1]'(by omega)).kind = 7
    · rw [cutGo_op (by omega) g h7] at h1
      by_cases hi : i < n + 1
      · exact cutGo_ops l (n + 1) i x (by omega) h1 hi hx
      · obtain rfl : i = n + 1 := by omega
        rw [g] at hx
        cases hx
        exact h7
    · rw [cutGo_stop g h7] at h1
      omega
theorem fun_pos {env : List Bd} {l : List Tok} (h : isFn env l = true) : 1 ≤ l.length := by
  cases l with
  | nil =>
    rw [isFn_eq] at h
    simp [isGrp] at h
  | cons x l => simp
theorem fun_one {env : List Bd} {l : List Tok} (h : isFn env l = true) (h1 : isGrp (l.take (cutN l)) gCur = false) (h2 : isGrp (l.take (cutN l)) gPar = false) : (l.take (cutN l)).length = 1 ∧ one1 env (l.take (cutN l)) = true := by
  rw [isFn_eq] at h
  by_cases h3 : (l.take (cutN l)).length = 1
  · rw [if_pos h3] at h
    exact ⟨h3, h⟩
  · rw [if_neg h3, h1, h2] at h
    simp at h
theorem cut_ops {l : List Tok} (hT : Toks l) : ∀ x ∈ l.drop (cutN l), isTok x = true ∧ x.kind = 7 := by
  intro x hx
  refine ⟨hT x (List.mem_of_mem_drop hx), ?_⟩
  obtain ⟨i, hi⟩ := List.getElem?_of_mem hx
  rw [List.getElem?_drop] at hi
  exact cutGo_ops l l.length (cutN l + i) x (Nat.le_refl _) (by unfold cutN; omega) (List.getElem?_eq_some_iff.1 hi).1 hi
theorem fun_res {p : Pz} (hp : HP p) (env : List Bd) (inner : Bool) {l : List Tok} (hT : Toks l) (hl : l.length ≤ 100) : Res l.length (fun t => rootFun t = true) (funP p env inner l) := by
  unfold funP
  cases hf : isFn env l with
  | false => exact rfl
  | true =>
    rw [if_pos rfl]
    have h1 := fun_pos hf
    have hc1 := cutN_le l
    have hc0 := cutN_pos h1
    have hlb : (l.take (cutN l)).length = cutN l := by rw [List.length_take]; omega
    have hld : (l.drop (cutN l)).length = l.length - cutN l := List.length_drop
    have hb := base_res hp env inner (b := l.take (cutN l)) (by omega) (hT.take _) (by omega) (fun a b => (fun_one hf a b).2)
    rw [hlb] at hb
    have := ops_res hl (l.drop (cutN l)) _ (cutN l) (cut_ops hT) (by omega) hb
    have e : cutN l + (l.drop (cutN l)).length = l.length := by omega
    rw [e] at this
    exact this

/-! ### Statements -/
theorem stmt_res {p : Pz} (hp : HP p) (env : List Bd) (inner : Bool) {l : List Tok} (hT : Toks l) (hl : l.length ≤ 100) : Res l.length (fun _ => True) (stmtP p env inner l) := by
  unfold stmtP
  by_cases hm : makes l = true
  · rw [if_pos hm]
    unfold makes at hm
    simp only [Bool.and_eq_true, decide_eq_true_eq] at hm
    obtain ⟨h2, h3, h4⟩ := hm
    have g0 := List.getElem?_eq_getElem (l := l) (i := 0) (by omega)
    rw [g0] at h3
    simp only [Option.any_some, decide_eq_true_eq] at h3
    have hx := hT _ (List.getElem_mem (show 0 < l.length by omega))
    have hd : (l.drop 2).length = l.length - 2 := List.length_drop
    have hi : ∃ F, Res (l.length - 2) F (if isFn env (l.drop 2) then p.fn env inner (l.drop 2) else p.expr env inner (l.drop 2)) := by
      have h := hp env inner (l.drop 2) (hT.drop 2) (by omega)
      rw [hd] at h
      split
      · exact ⟨_, h.2.1⟩
      · exact ⟨_, h.1⟩
    obtain ⟨F, hi⟩ := hi
    cases hr : (if isFn env (l.drop 2) then p.fn env inner (l.drop 2) else p.expr env inner (l.drop 2)) with
    | error e => rw [hr] at hi; exact hi
    | ok t =>
      rw [hr] at hi
      obtain ⟨r1, r2, _⟩ := hi.ok
      have e0 : ((l[0]?).map (·.text) |>.getD noB) = (l[0]).text := by rw [g0]; rfl
      simp only
      rw [e0]
      exact res_join (fun u hu => by cases List.mem_singleton.1 hu; exact r1) (by decide : formAt 8 = some (1, 1, true)) (by simp) (by simp) (has_text (Toks.text hx (.inr h3))) (by rw [size1]; omega) (by omega) (fun _ _ => trivial)
  · rw [if_neg hm]
    by_cases hg : (splitRes l gCol).1.length = 2 ∧ inner = true
    · rw [if_pos hg]
      have hpp := splitRes_parts l gCol
      have hsum := splitRes_sum l gCol
      generalize (splitRes l gCol).1 = ps at *
      obtain ⟨hg1, _⟩ := hg
      match ps, hg1 with
      | [q0, q1], _ =>
        have hs : q0.length + q1.length ≤ l.length := by simpa [sumLen] using hsum
        have m0 := hpp.2 q0 (by simp)
        have m1 := hpp.2 q1 (by simp)
        have e0 := (hp env inner q0 (fun x hx => hT x (m0.2 x hx)) (by omega)).1
        have e1 := (hp env inner q1 (fun x hx => hT x (m1.2 x hx)) (by omega)).1
        show Res l.length (fun _ => True) (match p.expr env inner q0 with | .error e => .error e | .ok a => match p.expr env inner q1 with | .error e => .error e | .ok b => joinP 12 noB [a, b])
        cases hr0 : p.expr env inner q0 with
        | error e => rw [hr0] at e0; exact e0
        | ok ta =>
          rw [hr0] at e0
          obtain ⟨a1, a2, _⟩ := e0.ok
          simp only
          cases hr1 : p.expr env inner q1 with
          | error e => rw [hr1] at e1; exact e1
          | ok tb =>
            rw [hr1] at e1
            obtain ⟨b1, b2, _⟩ := e1.ok
            exact res_join (fun u hu => by
              rcases List.mem_cons.1 hu with rfl | hu
              · exact a1
              · cases List.mem_singleton.1 hu; exact b1) (by decide : formAt 12 = some (2, 2, false)) (by simp) (by simp) no_text (by rw [size2]; omega) (by omega) (fun _ _ => trivial)
    · rw [if_neg hg]
      have h := (hp env inner l hT hl).1
      cases hr : p.expr env inner l with
      | error e => rw [hr] at h; exact h
      | ok t =>
        rw [hr] at h
        obtain ⟨r1, r2, _⟩ := h.ok
        exact ⟨r1, r2, trivial⟩
theorem pz_res : ∀ k, HP (pz k)
  | 0 => fun env inner l _ _ => ⟨rfl, rfl, rfl⟩
  | k + 1 => fun env inner l hT hl => ⟨expr_res (pz_res k) env inner hT hl, fun_res (pz_res k) env inner hT hl, stmt_res (pz_res k) env inner hT hl⟩
end Go.Proofs.YtebejlnegalokaaGreatDoor
