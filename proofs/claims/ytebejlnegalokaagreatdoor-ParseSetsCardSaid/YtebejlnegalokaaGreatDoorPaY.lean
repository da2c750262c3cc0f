/-
  The laws of layer 8, plainly.
-/
import Derived.Test.YtebejlnegalokaaGreatDoorPaX
set_option linter.unusedSimpArgs false
set_option linter.unusedVariables false
namespace Go.Proofs.YtebejlnegalokaaGreatDoor
open Go.RowKit
open Gz (Tok Brs brs codeOf brsOf matchOf splitGo splitOf splitRes insideRes gPar gPas gCur gCus)
open Nz (Nd rightN joinN kidN)

/-! ### Whole lists -/
theorem parse_ok {l : List Tok} {r : PR} (h : (parseOf l r).2 = 0) : checkOf l = 0 ∧ ∃ t, r = .ok t ∧ parseOf l r = (t, 0) := by
  unfold parseOf at h ⊢
  by_cases hc : checkOf l = 0
  · rw [if_pos hc] at h ⊢
    refine ⟨hc, ?_⟩
    match r, h with
    | .ok t, _ => exact ⟨t, rfl, rfl⟩
    | .error true, h => simp [codeP] at h
    | .error false, h => simp [codeP] at h
  · rw [if_neg hc] at h
    exact absurd h hc
theorem parse_good {l : List Tok} {t : List Nd} (h : checkOf l = 0) : parseOf l (.ok t) = (t, 0) := by
  unfold parseOf
  rw [if_pos h]
  rfl
theorem parse_bad {l : List Tok} {r : PR} (h : checkOf l ≠ 0) : parseOf l r = ([], checkOf l) := by
  unfold parseOf
  rw [if_neg h]
theorem parse_err {l : List Tok} {e : Bool} : (parseOf l (.error e)).2 ≠ 0 := fun h => by
  obtain ⟨_, t, ht, _⟩ := parse_ok h
  cases ht
theorem check_toks {l : List Tok} (h : checkOf l = 0) : Toks l ∧ codeOf l = 0 ∧ l.length ≤ 100 := by
  unfold checkOf at h
  cases ha : l.all isTok with
  | false => rw [ha] at h; simp at h
  | true =>
    rw [ha, if_pos rfl] at h
    by_cases hc : codeOf l = 0
    · rw [if_pos hc] at h
      by_cases h1 : 100 < l.length
      · rw [if_pos h1] at h; omega
      · exact ⟨List.all_eq_true.1 ha, hc, by omega⟩
    · rw [if_neg hc] at h
      exact absurd h hc
theorem check_is {l : List Tok} (h : l.length ≤ 100) : checkOf l = if l.all isTok then codeOf l else 81 := by
  unfold checkOf
  by_cases ha : l.all isTok = true
  · rw [if_pos ha, if_pos ha]
    by_cases hc : codeOf l = 0
    · rw [if_pos hc, if_neg (by omega), hc]
    · rw [if_neg hc]
  · rw [if_neg ha, if_neg ha]
theorem check_ahead {x : Tok} {l : List Tok} (h : l.length ≤ 98) (hx : isTok x = true) (hb : x.br = none) : checkOf (x :: l) = checkOf l := by
  rw [check_is (by simp; omega), check_is (by omega), code_ahead hb]
  simp [hx]
theorem check_behind {x : Tok} {l : List Tok} (h : l.length ≤ 98) (hx : isTok x = true) (hb : x.br = none) : checkOf (l ++ [x]) = checkOf l := by
  rw [check_is (by simp; omega), check_is (by omega), code_behind hb]
  simp [hx]

/-! ### An operator behind -/
def slash : Tok := ⟨7, ⟨#[47]⟩, ⟨#[47]⟩⟩
theorem cutGo_pre (l r : List Tok) : ∀ n, n ≤ l.length → cutGo (l ++ r) n = cutGo l n
  | 0, _ => rfl
  | 1, _ => rfl
  | n + 2, h => by
    unfold cutGo
    rw [List.getElem?_append_left (by omega), cutGo_pre l r (n + 1) (by omega)]
theorem cut_behind {l : List Tok} (h : 1 ≤ l.length) : cutN (l ++ [slash]) = cutN l := by
  unfold cutN
  rw [List.length_append, List.length_singleton, cutGo_op h (x := slash) (by rw [List.getElem?_append_right (Nat.le_refl _), Nat.sub_self]; rfl) rfl, cutGo_pre l _ _ (Nat.le_refl _)]
theorem opsGo_snoc (x : Tok) : ∀ (l : List Tok) (r : PR), opsGo r (l ++ [x]) = (match opsGo r l with | .ok t => joinP 10 x.glyph [t] | .error e => .error e)
  | [], .ok t => by
    show opsGo (joinP 10 x.glyph [t]) [] = _
    unfold opsGo
    rfl
  | [], .error e => by rw [List.nil_append, opsGo_error, opsGo_error]
  | y :: l, .error e => by rw [opsGo_error, opsGo_error]
  | y :: l, .ok t => by
    show opsGo (joinP 10 y.glyph [t]) (l ++ [x]) = _
    rw [opsGo_snoc x l]
    rfl
theorem fun_behind {p : Pz} {env : List Bd} {inner : Bool} {l : List Tok} (h : 1 ≤ l.length) : funP p env inner (l ++ [slash]) = (match funP p env inner l with | .ok t => joinP 10 slash.glyph [t] | .error e => .error e) := by
  have hc := cut_behind h
  have hl := cutN_le l
  have ht : (l ++ [slash]).take (cutN l) = l.take (cutN l) := List.take_append_of_le_length hl
  have hd : (l ++ [slash]).drop (cutN l) = l.drop (cutN l) ++ [slash] := List.drop_append_of_le_length hl
  have hf : isFn env (l ++ [slash]) = isFn env l := by rw [isFn_eq, isFn_eq env l, hc, ht]
  unfold funP
  rw [hf, hc, ht, hd, opsGo_snoc]
  cases isFn env l <;> rfl
theorem ops_law {p : Pz} (hp : HP p) (env : List Bd) (inner : Bool) {l : List Tok} (hl : l.length ≤ 60) (o1 o2 : List Nd × Int) (h1 : o1 = parseOf l (funP p env inner l)) (h2 : o2 = parseOf (l ++ [slash]) (funP p env inner (l ++ [slash]))) :
    (o1.2 ≠ 0 → o2.2 ≠ 0) ∧ (o1.2 = 0 → o2.2 = 0 ∧ kidN o2.1 0 = some o1.1 ∧ o2.1.length = o1.1.length + 1) := by
  have hch := check_behind (x := slash) (l := l) (by omega) (by decide) (by decide)
  refine ⟨fun h h0 => h ?_, fun h => ?_⟩
  · rw [h2] at h0
    obtain ⟨c2, t2, r2, _⟩ := parse_ok h0
    have hne : 1 ≤ l.length := by
      cases l with
      | nil =>
        exfalso
        have e : funP p env inner ([] ++ [slash]) = .error true := by
          unfold funP
          have hi : isFn env ([] ++ [slash]) = false := by
            rw [isFn_eq]
            rfl
          rw [hi]
          rfl
        rw [e] at r2
        cases r2
      | cons x l => simp
    rw [fun_behind hne] at r2
    cases hr : funP p env inner l with
    | error e => rw [hr] at r2; cases r2
    | ok t => rw [h1, hr, parse_good (by rw [← hch]; exact c2)]
  · rw [h1] at h
    obtain ⟨c1, t, r1, e1⟩ := parse_ok h
    obtain ⟨hT, _, _⟩ := check_toks c1
    have hres := fun_res hp env inner hT (by omega)
    rw [r1] at hres
    obtain ⟨q1, q2, q3⟩ := hres.ok
    have hne : 1 ≤ l.length := by
      cases l with
      | nil =>
        unfold funP at r1
        cases hf : isFn env [] with
        | true => have := fun_pos hf; simp at this
        | false => rw [hf] at r1; cases r1
      | cons x l => simp
    obtain ⟨out, J⟩ := joined_ok (kind := 10) (text := slash.glyph) (l := [t]) (fun u hu => by cases List.mem_singleton.1 hu; exact q1) (form_is (by decide : Nz.formAt 10 = some (1, 1, true)) (by simp) (by simp) (by decide)) (by rw [size1]; omega)
    have e2 : o2 = (out, 0) := by
      rw [h2, fun_behind hne, r1]
      show parseOf (l ++ [slash]) (joinP 10 slash.glyph [t]) = _
      rw [J.is_, parse_good (by rw [hch]; exact c1)]
    rw [h1, e1, e2]
    exact ⟨rfl, J.kid 0 t rfl, by have := J.size; rw [size1] at this; exact this⟩

/-! ### A function ahead -/
def minus : Tok := ⟨6, ⟨#[45]⟩, ⟨#[45]⟩⟩
theorem match_ahead {x : Tok} (hx : x.br = none) {l : List Tok} (hl : codeOf l = 0) (n : Nat) (hn : n < l.length) : (matchOf (x :: l)).getD (n + 1) (-1) = if (matchOf l).getD n (-1) < 0 then (matchOf l).getD n (-1) else (matchOf l).getD n (-1) + 1 := by
  have h1 : codeOf [x] = 0 := by rw [code_ahead hx]; decide
  obtain ⟨c1, c2⟩ := Gz.joins_law h1 hl
  have hl2 := (Gz.brsOf_len hl).1
  have hl1 := (Gz.brsOf_len h1).1
  rw [brsOf_pairs (show codeOf (x :: l) = 0 from c1), brsOf_pairs hl, show brsOf (x :: l) = brsOf ([x] ++ l) from rfl, c2]
  rw [List.getD_eq_getElem?_getD, List.getElem?_append_right (by rw [hl1]; simp), hl1, List.getElem?_map, List.getD_eq_getElem?_getD]
  have e : n + 1 - [x].length = n := by simp
  rw [e, List.getElem?_eq_getElem (by omega)]
  simp
theorem last_ahead {x : Tok} (hx : x.br = none) {l : List Tok} (h : 1 ≤ l.length) : lastAt (x :: l) = lastAt l + 1 := by
  unfold lastAt
  rw [code_ahead hx]
  have e1 : (x :: l).length - 1 = (l.length - 1) + 1 := by simp; omega
  rw [e1]
  by_cases hc : codeOf l = 0
  · rw [match_ahead hx hc (l.length - 1) (by omega)]
    generalize (matchOf l).getD (l.length - 1) (-1) = v
    by_cases hm : 0 ≤ v
    · have e : (if v < 0 then v else v + 1) = v + 1 := if_neg (by omega)
      rw [e]
      have c1 : codeOf l = 0 ∧ 0 ≤ v + 1 := ⟨hc, by omega⟩
      have c2 : codeOf l = 0 ∧ 0 ≤ v := ⟨hc, hm⟩
      rw [if_pos c1, if_pos c2]
      omega
    · have e : (if v < 0 then v else v + 1) = v := if_pos (by omega)
      rw [e]
      have c2 : ¬ (codeOf l = 0 ∧ 0 ≤ v) := fun hh => hm hh.2
      rw [if_neg c2, if_neg c2]
  · rw [if_neg (fun hh => hc hh.1), if_neg (fun hh => hc hh.1)]
theorem nums_ahead {x : Tok} (hx : x.kind ≠ 3) (l : List Tok) : ∀ n, n ≤ l.length → numsGo (x :: l) (n + 1) = numsGo l n + 1
  | 0, _ => by
    unfold numsGo
    simp [hx]
  | n + 1, h => by
    have g := List.getElem?_eq_getElem (l := l) (i := n) (by omega)
    have g2 : (x :: l)[n + 1]? = some (l[n]'(by omega)) := by rw [List.getElem?_cons_succ]; exact g
    by_cases h3 : (l[n]'(by omega)).kind = 3
    · rw [numsGo_num g2 h3, numsGo_num g h3]
      exact nums_ahead hx l n (by omega)
    · rw [numsGo_stop g2 h3, numsGo_stop g h3]
theorem val_ahead (env : List Bd) (inner : Bool) {l : List Tok} (h : 1 ≤ l.length) : valAt env inner (minus :: l) = (valAt env inner l).map (· + 1) := by
  have g := List.getElem?_eq_getElem (l := l) (i := l.length - 1) (by omega)
  have e1 : (minus :: l).length - 1 = (l.length - 1) + 1 := by simp; omega
  unfold valAt
  rw [e1, List.getElem?_cons_succ, g]
  simp only
  rw [last_ahead (by decide) h, List.drop_succ_cons, show (minus :: l).length = l.length + 1 from rfl, nums_ahead (by decide) l l.length (Nat.le_refl _)]
  split
  · rfl
  · split
    · rfl
    · split
      · split <;> rfl
      · split
        · split <;> rfl
        · split
          · split <;> rfl
          · rfl
theorem cut_ahead {l : List Tok} (h : ∀ n, 1 ≤ n → n ≤ l.length → cutGo l n = 1 → ∀ y, l[0]? = some y → y.kind ≠ 7) : ∀ n, 1 ≤ n → n ≤ l.length → cutGo (minus :: l) (n + 1) = cutGo l n + 1
  | 0, h1, _ => by omega
  | 1, _, hn => by
    have g := List.getElem?_eq_getElem (l := l) (i := 0) (by omega)
    have g2 : (minus :: l)[1]? = some (l[0]'(by omega)) := by rw [List.getElem?_cons_succ]; exact g
    have := h 1 (Nat.le_refl _) hn rfl _ g
    rw [cutGo_stop g2 this]
    rfl
  | n + 2, _, hn => by
    have g := List.getElem?_eq_getElem (l := l) (i := n + 1) (by omega)
    have g2 : (minus :: l)[n + 2]? = some (l[n + 1]'(by omega)) := by rw [List.getElem?_cons_succ]; exact g
    by_cases h7 : (l[n + 1]'(by omega)).kind = 7
    · rw [cutGo_op (by omega) g2 h7, cutGo_op (by omega) g h7]
      exact cut_ahead h (n + 1) (by omega) (by omega)
    · rw [cutGo_stop g2 h7, cutGo_stop g h7]
theorem fun_ahead {env : List Bd} {l : List Tok} {a : Nat} (h1 : 1 ≤ l.length) (h : funAt env l = some a) : funAt env (minus :: l) = some (a + 1) := by
  have hc1 := cutN_le l
  have hc0 := cutN_pos h1
  have hlb : (l.take (cutN l)).length = cutN l := by rw [List.length_take]; omega
  unfold funAt at h
  simp only at h
  have g := List.getElem?_eq_getElem (l := l) (i := 0) (by omega)
  -- the first token is no operator, if only it is left
  have h7 : cutN l = 1 → (l[0]'(by omega)).kind ≠ 7 := fun hc1 hk => by
    have hla : lastAt (l.take (cutN l)) = 0 := by
      have := lastAt_lt (l := l.take (cutN l)) (by omega)
      omega
    rw [hla, List.drop_zero] at h
    have hf : isFn env l = false := by
      rw [isFn_eq, if_pos (by rw [hlb, hc1]), hc1]
      unfold one1
      rw [List.getElem?_take, if_pos (by omega), g]
      simp [hk]
    rw [hf] at h
    simp at h
  have hcut : cutN (minus :: l) = cutN l + 1 := by
    unfold cutN
    by_cases hc : cutGo l l.length = 1
    · have hk := h7 hc
      exact cut_ahead (fun n _ _ _ y hy => by rw [g] at hy; cases hy; exact hk) l.length h1 (Nat.le_refl _)
    · -- it stops before
      have hgo : ∀ n, 1 ≤ n → n ≤ l.length → cutGo l n ≠ 1 → cutGo (minus :: l) (n + 1) = cutGo l n + 1 := by
        intro n
        induction n with
        | zero => intro h; omega
        | succ n ih =>
          intro _ hn hne
          cases n with
          | zero => exact absurd rfl hne
          | succ n =>
            have g := List.getElem?_eq_getElem (l := l) (i := n + 1) (by omega)
            have g2 : (minus :: l)[n + 2]? = some (l[n + 1]'(by omega)) := by rw [List.getElem?_cons_succ]; exact g
            by_cases h7 : (l[n + 1]'(by omega)).kind = 7
            · rw [cutGo_op (by omega) g h7] at hne ⊢
              rw [cutGo_op (by omega) g2 h7]
              exact ih (by omega) (by omega) hne
            · rw [cutGo_stop g2 h7, cutGo_stop g h7]
      exact hgo l.length h1 (Nat.le_refl _) hc
  unfold funAt
  simp only
  rw [hcut, List.take_succ_cons, last_ahead (by decide) (by omega), List.drop_succ_cons]
  split at h
  · rename_i hf
    cases h
    rw [if_pos hf]
  · cases h
theorem apply_ahead {p : Pz} {env : List Bd} {inner : Bool} {l l' : List Tok} {t t' : List Nd} (h1 : 1 ≤ l.length) (h : applyP p env inner l t = .ok (t', l')) : applyP p env inner (minus :: l) t = .ok (t', minus :: l') := by
  unfold applyP at h
  cases hf : funAt env l with
  | none => rw [hf] at h; cases h
  | some a =>
    rw [hf] at h
    simp only at h
    unfold applyP
    rw [fun_ahead h1 hf]
    simp only
    rw [List.drop_succ_cons, List.take_succ_cons]
    cases hr : p.fn env inner (l.drop a) with
    | error e => rw [hr] at h; cases h
    | ok f =>
      rw [hr] at h
      simp only at h ⊢
      have hva : valAt env inner (minus :: l.take a) = (valAt env inner (l.take a)).map (· + 1) := by
        by_cases ha : 1 ≤ (l.take a).length
        · exact val_ahead env inner ha
        · have : l.take a = [] := List.eq_nil_of_length_eq_zero (by omega)
          rw [this]
          rfl
      rw [hva]
      cases hv : valAt env inner (l.take a) with
      | none =>
        rw [hv] at h
        simp only [Option.map_none] at h ⊢
        cases hj : joinP 6 noB [f, t] with
        | error e => rw [hj] at h; cases h
        | ok u => rw [hj] at h; cases h; rfl
      | some b =>
        rw [hv] at h
        simp only [Option.map_some] at h ⊢
        rw [List.drop_succ_cons, List.take_succ_cons]
        cases hx : valP p env inner ((l.take a).drop b) with
        | error e => rw [hx] at h; cases h
        | ok x =>
          rw [hx] at h
          simp only at h ⊢
          cases hj : joinP 7 noB [x, f, t] with
          | error e => rw [hj] at h; cases h
          | ok u => rw [hj] at h; cases h; rfl
theorem go_ahead {p : Pz} {env : List Bd} {inner : Bool} (f : List Nd) (hm : p.fn env inner [minus] = .ok f) : ∀ (k : Nat) (l : List Tok) (t r : List Nd), exprGo p env inner k l t = .ok r → exprGo p env inner (k + 1) (minus :: l) t = joinP 6 noB [f, r]
  | k, [], t, r, h => by
    have e : exprGo p env inner k [] t = .ok t := by simp [exprGo]
    rw [e] at h
    cases h
    unfold exprGo applyP
    have hf : funAt env [minus] = some 0 := by
      unfold funAt
      simp only
      have hl : lastAt ([minus].take (cutN [minus])) = 0 := by decide
      have hi : isFn env [minus] = true := by rw [isFn_eq]; rfl
      rw [hl, List.drop_zero, hi]
      rfl
    rw [hf]
    simp only [List.drop_zero, List.take_zero, hm]
    rw [show valAt env inner [] = none from rfl]
    simp only
    cases hj : joinP 6 noB [f, t] with
    | error e => rfl
    | ok u => simp [exprGo]
  | 0, x :: l, t, r, h => by
    unfold exprGo at h
    cases h
  | k + 1, x :: l, t, r, h => by
    unfold exprGo at h
    cases ha : applyP p env inner (x :: l) t with
    | error e => rw [ha] at h; cases h
    | ok tl =>
      obtain ⟨t', l'⟩ := tl
      rw [ha] at h
      simp only at h
      have e := apply_ahead (by simp) ha
      rw [show exprGo p env inner (k + 1 + 1) (minus :: x :: l) t = (match applyP p env inner (minus :: x :: l) t with | .error e => .error e | .ok (t', l') => exprGo p env inner (k + 1) l' t') from rfl, e]
      exact go_ahead f hm k l' t' r h
theorem expr_ahead {p : Pz} {env : List Bd} {inner : Bool} (f : List Nd) (hm : p.fn env inner [minus] = .ok f) {l : List Tok} {r : List Nd} (h : exprP p env inner l = .ok r) : exprP p env inner (minus :: l) = joinP 6 noB [f, r] := by
  unfold exprP at h
  cases hv : valAt env inner l with
  | none => rw [hv] at h; cases h
  | some a =>
    rw [hv] at h
    simp only at h
    have hl := (valAt_parts hv).1
    unfold exprP
    rw [val_ahead env inner (by omega), hv]
    simp only [Option.map_some, List.drop_succ_cons, List.take_succ_cons]
    cases hr : valP p env inner (l.drop a) with
    | error e => rw [hr] at h; cases h
    | ok t =>
      rw [hr] at h
      exact go_ahead f hm _ _ t r h
theorem minus_fn (q : Pz) (env : List Bd) (inner : Bool) : funP q env inner [minus] = joinP 9 minus.glyph [] := by
  have hi : isFn env [minus] = true := by rw [isFn_eq]; rfl
  have hc : cutN [minus] = 1 := rfl
  have g1 : isGrp [minus] gCur = false := by decide
  have g2 : isGrp [minus] gPar = false := by decide
  unfold funP
  rw [hi, if_pos rfl, hc]
  show opsGo (baseP q env inner [minus]) [] = _
  unfold opsGo baseP
  rw [g1, g2]
  rfl
theorem mons_law (k : Nat) (env : List Bd) (inner : Bool) {l : List Tok} (hl : l.length ≤ 60) (o1 o2 : List Nd × Int) (h1 : o1 = parseOf l ((pz (k + 2)).expr env inner l)) (h2 : o2 = parseOf (minus :: l) ((pz (k + 2)).expr env inner (minus :: l))) :
    (o1.2 ≠ 0 → o2.2 = o1.2 ∨ o2.2 = 0 ∨ o2.2 = 80) ∧ (o1.2 = 0 → o2.2 = 0 ∧ o2.1.length = o1.1.length + 2) := by
  have hch := check_ahead (x := minus) (l := l) (by omega) (by decide) (by decide)
  refine ⟨fun _ => ?_, fun h => ?_⟩
  · by_cases hc : checkOf l = 0
    · have hc2 : checkOf (minus :: l) = 0 := by rw [hch]; exact hc
      obtain ⟨hT, _, _⟩ := check_toks hc2
      have hr := (pz_res (k + 2) env inner (minus :: l) hT (by simp; omega)).1
      cases hx : (pz (k + 2)).expr env inner (minus :: l) with
      | ok t => rw [h2, hx, parse_good hc2]; exact .inr (.inl rfl)
      | error e =>
        rw [hx] at hr
        have := hr.er
        subst this
        rw [h2, hx]
        right; right
        unfold parseOf
        rw [if_pos hc2]
        rfl
    · left
      rw [h1, h2, parse_bad hc, parse_bad (by rw [hch]; exact hc), hch]
  · rw [h1] at h
    obtain ⟨c1, r, r1, e1⟩ := parse_ok h
    obtain ⟨hT, _, _⟩ := check_toks c1
    have hres := (pz_res (k + 2) env inner l hT (by omega)).1
    rw [r1] at hres
    obtain ⟨q1, q2, _⟩ := hres.ok
    obtain ⟨f, F⟩ := joined_ok (kind := 9) (text := minus.glyph) (l := []) (fun u hu => by simp at hu) (form_is (by decide : Nz.formAt 9 = some (0, 0, true)) (by simp) (by simp) (by decide)) (by decide)
    have hfn : (pz (k + 1)).fn env inner [minus] = .ok f := (minus_fn (pz k) env inner).trans F.is_
    have hfs : f.length = 1 := F.size
    have hx : (pz (k + 2)).expr env inner (minus :: l) = joinP 6 noB [f, r] := expr_ahead (p := pz (k + 1)) f hfn r1
    obtain ⟨out, J⟩ := joined_ok (kind := 6) (text := noB) (l := [f, r]) (fun u hu => by
      rcases List.mem_cons.1 hu with rfl | hu
      · exact F.right
      · cases List.mem_singleton.1 hu; exact q1) (form_is (by decide : Nz.formAt 6 = some (2, 2, false)) (by simp) (by simp) no_text) (by rw [size2]; omega)
    have e2 : o2 = (out, 0) := by rw [h2, hx, J.is_, parse_good (by rw [hch]; exact c1)]
    rw [h1, e1, e2]
    exact ⟨rfl, by have := J.size; rw [size2] at this; simp only; omega⟩
end Go.Proofs.YtebejlnegalokaaGreatDoor
