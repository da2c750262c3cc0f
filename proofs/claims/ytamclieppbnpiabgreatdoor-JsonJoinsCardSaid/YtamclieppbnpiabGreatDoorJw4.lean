/-
  What is read is right, and is read with more behind it. No program here.
-/
import Derived.Test.YtamclieppbnpiabGreatDoorJw3
set_option linter.unusedSimpArgs false
set_option linter.unusedVariables false
namespace Go.Proofs.YtamclieppbnpiabGreatDoor
open Go.RowKit Go.Lib

theorem inI0 : InI 0 := by unfold InI; omega
theorem keysGo_app : ∀ (l pre : List ByteArray) (k : ByteArray), keysGo pre (l ++ [k]) = (keysGo pre l && (validB k && !inB k (pre ++ l)))
  | [], pre, k => by simp [keysGo]
  | a :: l, pre, k => by
    simp only [List.cons_append, keysGo]
    rw [keysGo_app l (pre ++ [a]) k]
    simp only [List.append_assoc, List.singleton_append, Bool.and_assoc]
theorem skip_len : ∀ (l : List UInt8), (skipL l).length ≤ l.length
  | [] => Nat.le_refl _
  | c :: l => by
    unfold skipL
    rw [List.dropWhile_cons]
    split
    · have := skip_len l
      unfold skipL at this
      simp; omega
    · exact Nat.le_refl _
theorem skip_more : ∀ (l t : List UInt8), skipL l ≠ [] → skipL (l ++ t) = skipL l ++ t
  | [], t, h => absurd rfl h
  | c :: l, t, h => by
    unfold skipL at h ⊢
    rw [List.dropWhile_cons] at h
    rw [List.cons_append, List.dropWhile_cons, List.dropWhile_cons]
    by_cases hc : isWs c = true
    · rw [if_pos hc] at h
      rw [if_pos hc, if_pos hc]
      exact skip_more l t h
    · rw [if_neg hc, if_neg hc]
      rfl
theorem keyL_more {keys : List ByteArray} {l r : List UInt8} {k : ByteArray} (h : keyL keys l = .ok (k, r)) : validB k = true ∧ inB k keys = false ∧ r.length < l.length ∧ (r ≠ [] → ∀ t, keyL keys (l ++ t) = .ok (k, r ++ t)) := by
  unfold keyL at h
  cases h1 : takeP [34] l with
  | none => rw [h1] at h; cases h
  | some a =>
    rw [h1] at h; simp only at h
    cases h2 : wordL a with
    | error e => rw [h2] at h; cases h
    | ok p =>
      obtain ⟨w, q⟩ := p
      rw [h2] at h; simp only at h
      obtain ⟨w1, w2, w3⟩ := wordL_more h2
      by_cases h3 : inB (bs w) keys = true
      · rw [if_pos h3] at h; cases h
      · rw [if_neg h3] at h
        cases h4 : takeP [58] (skipL q) with
        | none => rw [h4] at h; cases h
        | some u =>
          rw [h4] at h; simp only at h
          obtain ⟨rfl, rfl⟩ := Prod.mk.inj (Except.ok.inj h)
          have l1 := takeP_len h1
          have l4 := takeP_len h4
          have l5 := skip_len q
          have l6 := skip_len u
          refine ⟨by unfold validB; rw [bs_list]; exact w1, by simpa using h3, by simp at l1 l4; omega, fun hne t => ?_⟩
          have hq : skipL q ≠ [] := fun e => by rw [e] at h4; cases h4
          unfold keyL
          rw [takeP_more h1 t]
          simp only
          rw [w3 t]
          simp only
          rw [if_neg h3, skip_more q t hq, takeP_more h4 t]
          simp only
          rw [skip_more u t hne]
theorem thenL_more' {obj b : Bool} {l r : List UInt8} (h : thenL obj l = .ok (b, r)) : r.length < l.length ∧ ∀ t, thenL obj (l ++ t) = .ok (b, r ++ t) := by
  have l1 := skip_len l
  unfold thenL at h
  cases hs : skipL l with
  | nil => rw [hs] at h; cases h
  | cons c q =>
    rw [hs] at h l1; simp only at h
    have key : ∀ t, skipL (l ++ t) = c :: (q ++ t) := fun t => by rw [skip_more l t (by rw [hs]; simp), hs]; rfl
    simp only [List.length_cons] at l1
    by_cases h1 : c = endJ obj
    · rw [if_pos h1] at h
      obtain ⟨rfl, rfl⟩ := Prod.mk.inj (Except.ok.inj h)
      refine ⟨by omega, fun t => ?_⟩
      unfold thenL
      rw [key t]
      simp only
      rw [if_pos h1]
    · rw [if_neg h1] at h
      by_cases h2 : c = 44
      · rw [if_pos h2] at h
        obtain ⟨rfl, rfl⟩ := Prod.mk.inj (Except.ok.inj h)
        refine ⟨by omega, fun t => ?_⟩
        unfold thenL
        rw [key t]
        simp only
        rw [if_neg h1, if_pos h2]
      · rw [if_neg h2] at h; cases h
/-- The keys, and what is left, ahead of an item. -/
def entJ (obj : Bool) (keys : List ByteArray) (l : List UInt8) : Except Int (List ByteArray × List UInt8) := if obj then (match keyL keys (skipL l) with | .error e => .error e | .ok (k, r) => .ok (keys ++ [k], r)) else .ok (keys, skipL l)
theorem itemsGo_succ (val : List UInt8 → Got) (obj : Bool) (m : Nat) (keys : List ByteArray) (acc : List Js) (l : List UInt8) : itemsGo val obj (m + 1) keys acc l =
    match entJ obj keys l with
    | .error e => .error e
    | .ok (ks, r) => match val r with
      | .error e => .error e
      | .ok (x, q) => match thenL obj q with
        | .error e => .error e
        | .ok (true, t) => .ok (mkJ obj ks (acc ++ [x]), t)
        | .ok (false, t) => itemsGo val obj m ks (acc ++ [x]) t := rfl
def KeysFit (obj : Bool) (keys : List ByteArray) (n : Nat) : Prop := if obj then keysOk keys = true ∧ keys.length = n else keys = []
theorem entJ_more {obj : Bool} {keys ks : List ByteArray} {l r : List UInt8} {n : Nat} (h : entJ obj keys l = .ok (ks, r)) (hk : KeysFit obj keys n) : KeysFit obj ks (n + 1) ∧ r.length ≤ l.length ∧ (r ≠ [] → ∀ t, entJ obj keys (l ++ t) = .ok (ks, r ++ t)) := by
  have l1 := skip_len l
  unfold entJ at h
  unfold KeysFit at hk ⊢
  cases obj with
  | false =>
    simp only [Bool.false_eq_true, if_false] at h hk ⊢
    obtain ⟨rfl, rfl⟩ := Prod.mk.inj (Except.ok.inj h)
    refine ⟨hk, l1, fun hne t => ?_⟩
    unfold entJ
    simp only [Bool.false_eq_true, if_false]
    rw [skip_more l t hne]
  | true =>
    simp only [if_true] at h hk ⊢
    cases hq : keyL keys (skipL l) with
    | error e => rw [hq] at h; cases h
    | ok p =>
      obtain ⟨k, u⟩ := p
      rw [hq] at h; simp only at h
      obtain ⟨rfl, rfl⟩ := Prod.mk.inj (Except.ok.inj h)
      obtain ⟨a1, a2, a3, a4⟩ := keyL_more hq
      refine ⟨⟨?_, by simp [hk.2]⟩, by omega, fun hne t => ?_⟩
      · unfold keysOk
        rw [keysGo_app]
        have := hk.1
        unfold keysOk at this
        rw [this, a1, List.nil_append, a2]
        rfl
      · have hs : skipL l ≠ [] := fun e => by rw [e] at a3; simp at a3
        unfold entJ
        simp only [if_true]
        rw [skip_more l t hs, a4 hne t]
/-- What is said of a way of reading values. -/
def GoodV (d : Nat) (val : List UInt8 → Got) : Prop := ∀ l v r, val l = .ok (v, r) → rightJ d v = true ∧ fitJ v ∧ r.length < l.length ∧ ∀ t, okT t → val (l ++ t) = .ok (v, r ++ t)
theorem mk_right {d : Nat} {obj : Bool} {keys : List ByteArray} {l : List Js} (hk : KeysFit obj keys l.length) (hl : ∀ x ∈ l, rightJ d x = true ∧ fitJ x) : rightJ (d + 1) (mkJ obj keys l) = true ∧ fitJ (mkJ obj keys l) := by
  have hall : l.all (rightJ d) = true := List.all_eq_true.2 (fun x hx => (hl x hx).1)
  refine ⟨?_, fitJ_iff.2 ⟨inI0, fun x hx => (hl x hx).2⟩⟩
  rw [rightJ, Bool.and_eq_true]
  refine ⟨?_, hall⟩
  unfold mkJ
  rw [own_mk]
  unfold KeysFit at hk
  cases obj with
  | false =>
    simp only [Bool.false_eq_true, if_false] at hk
    subst hk
    simp [kindJ]
  | true =>
    simp only [if_true] at hk
    simp [kindJ, hk.1, hk.2]
theorem itemsGo_more {d : Nat} {val : List UInt8 → Got} (H : GoodV d val) (obj : Bool) : ∀ (m : Nat) (keys : List ByteArray) (acc : List Js) (l : List UInt8) (v : Js) (r : List UInt8), itemsGo val obj m keys acc l = .ok (v, r) →
    KeysFit obj keys acc.length → (∀ x ∈ acc, rightJ d x = true ∧ fitJ x) → rightJ (d + 1) v = true ∧ fitJ v ∧ r.length < l.length ∧ ∀ m' t, m ≤ m' → okT t → itemsGo val obj m' keys acc (l ++ t) = .ok (v, r ++ t)
  | 0, _, _, _, _, _, h, _, _ => by cases h
  | m + 1, keys, acc, l, v, r, h, hk, ha => by
    rw [itemsGo_succ] at h
    cases h1 : entJ obj keys l with
    | error e => rw [h1] at h; cases h
    | ok p =>
      obtain ⟨ks, r1⟩ := p
      rw [h1] at h; simp only at h
      obtain ⟨a1, a2, a3⟩ := entJ_more h1 hk
      cases h2 : val r1 with
      | error e => rw [h2] at h; cases h
      | ok p =>
        obtain ⟨x, q⟩ := p
        rw [h2] at h; simp only at h
        obtain ⟨b1, b2, b3, b4⟩ := H _ _ _ h2
        have hne : r1 ≠ [] := fun e => by subst e; simp at b3
        have ha2 : ∀ y ∈ acc ++ [x], rightJ d y = true ∧ fitJ y := fun y hy => by
          rcases List.mem_append.1 hy with hy | hy
          · exact ha y hy
          · rw [List.mem_singleton.1 hy]; exact ⟨b1, b2⟩
        have hk2 : KeysFit obj ks (acc ++ [x]).length := by rw [List.length_append]; exact a1
        cases h3 : thenL obj q with
        | error e => rw [h3] at h; cases h
        | ok p =>
          obtain ⟨b, u⟩ := p
          rw [h3] at h
          obtain ⟨c1, c2⟩ := thenL_more' h3
          cases b with
          | true =>
            simp only at h
            obtain ⟨rfl, rfl⟩ := Prod.mk.inj (Except.ok.inj h)
            obtain ⟨e1, e2⟩ := mk_right hk2 ha2
            refine ⟨e1, e2, by omega, fun m' t hm ht => ?_⟩
            obtain ⟨j, rfl⟩ : ∃ j, m' = j + 1 := ⟨m' - 1, by omega⟩
            rw [itemsGo_succ, a3 hne t]
            simp only
            rw [b4 t ht]
            simp only
            rw [c2 t]
          | false =>
            simp only at h
            obtain ⟨e1, e2, e3, e4⟩ := itemsGo_more H obj m ks (acc ++ [x]) u v r h hk2 ha2
            refine ⟨e1, e2, by omega, fun m' t hm ht => ?_⟩
            obtain ⟨j, rfl⟩ : ∃ j, m' = j + 1 := ⟨m' - 1, by omega⟩
            rw [itemsGo_succ, a3 hne t]
            simp only
            rw [b4 t ht]
            simp only
            rw [c2 t]
            simp only
            exact e4 j t (by omega) ht
theorem takeP_none {p : List UInt8} : ∀ {l : List UInt8}, l ≠ [] → takeP p l = none → p.length = 1 → ∀ t, takeP p (l ++ t) = none := by
  intro l hl h hp t
  match p, hp with
  | [a], _ =>
    cases l with
    | nil => exact absurd rfl hl
    | cons c l =>
      rw [takeP] at h
      rw [List.cons_append, takeP]
      split at h
      · cases h
      · rename_i hc; rw [if_neg hc]
theorem itemsL_more {d : Nat} {val : List UInt8 → Got} (H : GoodV d val) (obj : Bool) {l r : List UInt8} {v : Js} (h : itemsL val obj l = .ok (v, r)) : rightJ (d + 1) v = true ∧ fitJ v ∧ r.length < l.length ∧ ∀ t, okT t → itemsL val obj (l ++ t) = .ok (v, r ++ t) := by
  have l1 := skip_len l
  unfold itemsL at h
  cases h1 : takeP [endJ obj] (skipL l) with
  | some q =>
    rw [h1] at h; simp only at h
    obtain ⟨rfl, rfl⟩ := Prod.mk.inj (Except.ok.inj h)
    obtain ⟨e1, e2⟩ := mk_right (d := d) (obj := obj) (keys := []) (l := []) (by unfold KeysFit; cases obj <;> simp [keysOk, keysGo]) (fun x hx => by cases hx)
    have l2 := takeP_len h1
    have hs : skipL l ≠ [] := fun e => by rw [e] at h1; cases h1
    refine ⟨e1, e2, by simp at l2; omega, fun t ht => ?_⟩
    unfold itemsL
    rw [skip_more l t hs, takeP_more h1 t]
  | none =>
    rw [h1] at h; simp only at h
    obtain ⟨e1, e2, e3, e4⟩ := itemsGo_more H obj _ _ _ _ _ _ h (by unfold KeysFit; cases obj <;> simp [keysOk, keysGo]) (fun x hx => by cases hx)
    have hs : skipL l ≠ [] := fun e => by rw [e] at e3; simp at e3
    refine ⟨e1, e2, by omega, fun t ht => ?_⟩
    unfold itemsL
    rw [skip_more l t hs, takeP_none hs h1 rfl t]
    simp only
    exact e4 _ t (by rw [List.length_append]; omega) ht
theorem takeP_not {p : List UInt8} : ∀ {l : List UInt8}, takeP p l = none → ∀ t, p.length ≤ l.length → takeP p (l ++ t) = none := by
  induction p with
  | nil => intro l h; cases h
  | cons a p ih =>
    intro l h t hl
    cases l with
    | nil => simp at hl
    | cons c l =>
      rw [takeP] at h
      rw [List.cons_append, takeP]
      split at h
      · rename_i hc; rw [if_pos hc]; exact ih h t (by simpa using hl)
      · rename_i hc; rw [if_neg hc]
/-- A text that begins with a word's first sign and is no number is no other value. -/
theorem digitL_head {c : UInt8} {r : List UInt8} (h : isDg c = false) (h2 : c ≠ 45) : digitL (c :: r) = .error 150 := by
  have e : allL (c :: r) = [] := by
    unfold allL digitsL
    rw [signL_cons, if_neg h2]
    simp [List.takeWhile_cons, h]
  unfold digitL
  rw [e]
  rfl
theorem plainL_more {d : Nat} : GoodV d plainL := by
  intro l v r h
  have big : InI 0 := by unfold InI; omega
  have hr : ∀ w : Js, ownJ d w = true → w.l = [] → rightJ d w = true := fun w hw he => by
    cases d with
    | zero => exact hw
    | succ d => rw [rightJ, hw, he]; rfl
  unfold plainL at h
  cases h1 : takeP [110, 117, 108, 108] l with
  | some q =>
    rw [h1] at h; simp only at h
    obtain ⟨rfl, rfl⟩ := Prod.mk.inj (Except.ok.inj h)
    have l1 := takeP_len h1
    refine ⟨hr _ rfl rfl, fitJ_iff.2 ⟨big, fun x hx => by cases hx⟩, by simp at l1; omega, fun t ht => ?_⟩
    unfold plainL
    rw [takeP_more h1 t]
  | none =>
    rw [h1] at h; simp only at h
    cases h2 : takeP [116, 114, 117, 101] l with
    | some q =>
      rw [h2] at h; simp only at h
      obtain ⟨rfl, rfl⟩ := Prod.mk.inj (Except.ok.inj h)
      have l1 := takeP_len h2
      refine ⟨hr _ rfl rfl, fitJ_iff.2 ⟨big, fun x hx => by cases hx⟩, by simp at l1; omega, fun t ht => ?_⟩
      unfold plainL
      rw [takeP_not h1 t (by simp at l1 ⊢; omega), takeP_more h2 t]
    | none =>
      rw [h2] at h; simp only at h
      cases h3 : takeP [102, 97, 108, 115, 101] l with
      | some q =>
        rw [h3] at h; simp only at h
        obtain ⟨rfl, rfl⟩ := Prod.mk.inj (Except.ok.inj h)
        have l1 := takeP_len h3
        refine ⟨hr _ rfl rfl, fitJ_iff.2 ⟨big, fun x hx => by cases hx⟩, by simp at l1; omega, fun t ht => ?_⟩
        unfold plainL
        rw [takeP_not h1 t (by simp at l1 ⊢; omega), takeP_not h2 t (by simp at l1 ⊢; omega), takeP_more h3 t]
      | none =>
        rw [h3] at h; simp only at h
        cases h4 : digitL l with
        | error e => rw [h4] at h; cases h
        | ok p =>
          obtain ⟨n, q⟩ := p
          rw [h4] at h; simp only at h
          obtain ⟨rfl, rfl⟩ := Prod.mk.inj (Except.ok.inj h)
          obtain ⟨a1, a2, a3⟩ := digitL_more h4
          refine ⟨hr _ rfl rfl, fitJ_iff.2 ⟨a1, fun x hx => by cases hx⟩, a2, fun t ht => ?_⟩
          cases l with
          | nil => simp at a2
          | cons c l =>
            have hc : isDg c = true ∨ c = 45 := by
              by_cases x1 : isDg c = true
              · exact .inl x1
              · by_cases x2 : c = 45
                · exact .inr x2
                · rw [digitL_head (by simpa using x1) x2] at h4; cases h4
            have hx : 110 ≠ c ∧ 116 ≠ c ∧ 102 ≠ c := by
              have := byte_all (p := fun c => !(isDg c || c == 45) || (110 != c && (116 != c && 102 != c))) (by decide +kernel) c
              have h2 : (isDg c || c == 45) = true := by simpa using hc
              simpa [h2] using this
            unfold plainL
            rw [a3 t ht, List.cons_append, takeP_no hx.1, takeP_no hx.2.1, takeP_no hx.2.2]
theorem valueL_nil (d : Nat) : valueL d [] = .error 150 := by rw [valueL.eq_def]; rfl
/-- What is read is right, and is read with more behind it. -/
theorem value_more : ∀ d, GoodV d (valueL d) := by
  intro d
  induction d with
  | zero =>
    intro l v r h
    cases l with
    | nil => rw [valueL_nil] at h; cases h
    | cons c q =>
      rw [valueL.eq_def] at h
      simp only at h
      by_cases h1 : c = 34
      · rw [if_pos h1] at h
        cases h2 : wordL q with
        | error e => rw [h2] at h; cases h
        | ok p =>
          obtain ⟨w, u⟩ := p
          rw [h2] at h; simp only at h
          obtain ⟨rfl, rfl⟩ := Prod.mk.inj (Except.ok.inj h)
          obtain ⟨a1, a2, a3⟩ := wordL_more h2
          refine ⟨by simp [rightJ, textJ, own_mk, validB, bs_list, a1], fitJ_iff.2 ⟨inI0, fun x hx => by cases hx⟩, by simp; omega, fun t ht => ?_⟩
          rw [List.cons_append, valueL.eq_def]
          simp only
          rw [if_pos h1, a3 t]
      · rw [if_neg h1] at h
        by_cases h2 : c = 91 ∨ c = 123
        · rw [if_pos h2] at h; cases h
        · rw [if_neg h2] at h
          obtain ⟨a1, a2, a3, a4⟩ := plainL_more (d := 0) _ _ _ h
          refine ⟨a1, a2, a3, fun t ht => ?_⟩
          rw [List.cons_append, valueL.eq_def]
          simp only
          rw [if_neg h1, if_neg h2]
          exact a4 t ht
  | succ d ih =>
    intro l v r h
    cases l with
    | nil => rw [valueL_nil] at h; cases h
    | cons c q =>
      rw [valueL.eq_def] at h
      simp only at h
      by_cases h1 : c = 34
      · rw [if_pos h1] at h
        cases h2 : wordL q with
        | error e => rw [h2] at h; cases h
        | ok p =>
          obtain ⟨w, u⟩ := p
          rw [h2] at h; simp only at h
          obtain ⟨rfl, rfl⟩ := Prod.mk.inj (Except.ok.inj h)
          obtain ⟨a1, a2, a3⟩ := wordL_more h2
          refine ⟨by simp [rightJ, textJ, own_mk, validB, bs_list, a1, Js.l], fitJ_iff.2 ⟨inI0, fun x hx => by cases hx⟩, by simp; omega, fun t ht => ?_⟩
          rw [List.cons_append, valueL.eq_def]
          simp only
          rw [if_pos h1, a3 t]
      · rw [if_neg h1] at h
        by_cases h2 : c = 91 ∨ c = 123
        · rw [if_pos h2] at h
          obtain ⟨a1, a2, a3, a4⟩ := itemsL_more ih _ h
          refine ⟨a1, a2, by simp; omega, fun t ht => ?_⟩
          rw [List.cons_append, valueL.eq_def]
          simp only
          rw [if_neg h1, if_pos h2]
          exact a4 t ht
        · rw [if_neg h2] at h
          obtain ⟨a1, a2, a3, a4⟩ := plainL_more (d := d + 1) _ _ _ h
          refine ⟨a1, a2, a3, fun t ht => ?_⟩
          rw [List.cons_append, valueL.eq_def]
          simp only
          rw [if_neg h1, if_neg h2]
          exact a4 t ht
theorem parse_right {s : List UInt8} {v : Js} (h : parseL s = .ok v) : rightJ 64 v = true ∧ fitJ v ∧ parseL (32 :: (s ++ [10])) = .ok v := by
  unfold parseL at h
  cases h1 : valueL 64 (skipL s) with
  | error e => rw [h1] at h; cases h
  | ok p =>
    obtain ⟨x, r⟩ := p
    rw [h1] at h; simp only at h
    by_cases h2 : skipL r = []
    · rw [if_pos h2] at h
      cases h
      obtain ⟨a1, a2, a3, a4⟩ := value_more 64 _ _ _ h1
      have hs : skipL s ≠ [] := fun e => by rw [e] at a3; simp at a3
      have hw : ∀ (l : List UInt8), skipL l = [] → skipL (l ++ [10]) = [] := by
        intro l
        induction l with
        | nil => intro _; rfl
        | cons c l ih =>
          intro hl
          unfold skipL at hl ih ⊢
          rw [List.dropWhile_cons] at hl
          rw [List.cons_append, List.dropWhile_cons]
          split at hl
          · rename_i hc; rw [if_pos hc]; exact ih hl
          · cases hl
      refine ⟨a1, a2, ?_⟩
      unfold parseL
      have e : skipL (32 :: (s ++ [10])) = skipL s ++ [10] := by
        rw [← skip_more s [10] hs]
        unfold skipL
        rw [List.dropWhile_cons]
        rfl
      rw [e, a4 [10] (okT_cons (by decide) _)]
      simp only
      rw [hw r h2]
      rfl
    · rw [if_neg h2] at h; cases h
end Go.Proofs.YtamclieppbnpiabGreatDoor
