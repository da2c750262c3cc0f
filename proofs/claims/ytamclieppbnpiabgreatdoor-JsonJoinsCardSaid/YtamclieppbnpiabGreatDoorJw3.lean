/-
  What is printed is read; what is read is right; what is read is read with more behind. No program here.
-/
import Derived.Test.YtamclieppbnpiabGreatDoorJw2
import Derived.Lib.ParseIntBCases
set_option linter.unusedSimpArgs false
set_option linter.unusedVariables false
namespace Go.Proofs.YtamclieppbnpiabGreatDoor
open Go.RowKit Go.Lib

def InI (n : Int) : Prop := -9223372036854775808 ≤ n ∧ n ≤ 9223372036854775807
mutual
def fitJ : Js → Prop
  | .mk _ _ n _ _ l => InI n ∧ fitJs l
def fitJs : List Js → Prop
  | [] => True
  | x :: l => fitJ x ∧ fitJs l
end
theorem fitJs_mem {l : List Js} : fitJs l ↔ ∀ x ∈ l, fitJ x := by
  induction l with
  | nil => simp [fitJs]
  | cons x l ih => simp [fitJs, ih]
theorem fitJ_iff {v : Js} : fitJ v ↔ InI v.n ∧ ∀ x ∈ v.l, fitJ x := by
  obtain ⟨k, y, n, s, ks, l⟩ := v
  simp only [fitJ, fitJs_mem, Js.n, Js.l]

/-! ### Numbers -/
theorem u8n {n : Nat} (h : n < 256) : (UInt8.ofNat n).toNat = n := by rw [UInt8.toNat_ofNat']; omega
theorem decDigits_dg (u : Nat) : ∀ c ∈ decDigits u, isDg c = true := by
  induction u using Nat.strongRecOn with
  | _ u ih =>
    intro c hc
    rw [decDigits] at hc
    by_cases h : u < 10
    · rw [dif_pos h] at hc
      have := List.mem_singleton.1 hc
      subst this
      unfold isDg
      rw [u8n (by omega)]
      simp
      omega
    · rw [dif_neg h] at hc
      rcases List.mem_append.1 hc with hc | hc
      · exact ih _ (by omega) c hc
      · have := List.mem_singleton.1 hc
        subst this
        unfold isDg
        rw [u8n (by omega)]
        simp
        omega
theorem decDigits_ne (u : Nat) : decDigits u ≠ [] := by
  rw [decDigits]
  split <;> simp
theorem decDigits_head (u : Nat) (h : (decDigits u).head? = some 48) : u = 0 := by
  induction u using Nat.strongRecOn with
  | _ u ih =>
    rw [decDigits] at h
    by_cases hu : u < 10
    · rw [dif_pos hu] at h
      simp only [List.head?_cons, Option.some.injEq] at h
      have := congrArg UInt8.toNat h
      rw [u8n (by omega)] at this
      simp at this
      omega
    · rw [dif_neg hu] at h
      have hh : (decDigits (u / 10) ++ [UInt8.ofNat (48 + u % 10)]).head? = (decDigits (u / 10)).head? := by
        cases hd : decDigits (u / 10) with
        | nil => exact absurd hd (decDigits_ne _)
        | cons a b => rfl
      rw [hh] at h
      have := ih (u / 10) (by omega) h
      omega
theorem parseUintM_app (M : Nat) : ∀ (l : List UInt8) (acc a : Nat) (m : List UInt8), parseUintM M acc l = .ok a → parseUintM M acc (l ++ m) = parseUintM M a m
  | [], acc, a, m, h => by simp only [parseUintM] at h; cases h; rfl
  | c :: l, acc, a, m, h => by
    simp only [parseUintM, List.cons_append] at h ⊢
    split at h
    · rename_i h1
      rw [if_pos h1]
      split at h
      · cases h
      · rename_i h2
        rw [if_neg h2]
        split at h
        · cases h
        · rename_i h3
          rw [if_neg h3]
          exact parseUintM_app M l _ a m h
    · cases h
theorem parse_dec (u : Nat) (h : u ≤ 9223372036854775808) : parseUintM 18446744073709551615 0 (decDigits u) = .ok u := by
  induction u using Nat.strongRecOn with
  | _ u ih =>
    rw [decDigits]
    by_cases hu : u < 10
    · rw [dif_pos hu]
      simp only [parseUintM]
      rw [u8n (by omega), if_pos (by omega), if_neg (by omega), if_neg (by omega)]
      congr 1
      omega
    · rw [dif_neg hu, parseUintM_app _ _ _ _ _ (ih (u / 10) (by omega) (by omega))]
      simp only [parseUintM]
      rw [u8n (by omega), if_pos (by omega), if_neg (by omega), if_neg (by omega)]
      congr 1
      omega
theorem parse_itoa {n : Int} (h : InI n) : parseIntB 64 (itoa n) = .ok n := by
  obtain ⟨h1, h2⟩ := h
  unfold itoa
  by_cases hn : n < 0
  · rw [if_pos hn, parseIntB_minus]
    have hd := parse_dec n.natAbs (by omega)
    have e : parseUintB 64 (decDigits n.natAbs) = .ok n.natAbs := by unfold parseUintB; rw [if_neg (decDigits_ne _)]; exact hd
    rw [e]
    have e2 : (2 : Nat) ^ (64 - 1) = 9223372036854775808 := by decide
    simp only [signedC, e2]
    rw [if_neg (by omega)]
    congr 1
    omega
  · rw [if_neg hn]
    have hd := parse_dec n.toNat (by omega)
    have e : parseUintB 64 (decDigits n.toNat) = .ok n.toNat := by unfold parseUintB; rw [if_neg (decDigits_ne _)]; exact hd
    have e2 : (2 : Nat) ^ (64 - 1) = 9223372036854775808 := by decide
    have hdg := decDigits_dg n.toNat
    have hne := decDigits_ne n.toNat
    generalize decDigits n.toNat = l at *
    cases l with
    | nil => exact absurd rfl hne
    | cons c r =>
      have hc := hdg c (by simp)
      unfold isDg at hc
      simp only [Bool.and_eq_true, decide_eq_true_eq] at hc
      rw [parseIntB_plain _ _ _ (by omega) (by omega), e]
      simp only [signlessC, e2]
      rw [if_neg (by omega)]
      congr 1
      omega
/-- What may stand behind a value. -/
def okT (t : List UInt8) : Prop := ∀ c r, t = c :: r → isDg c = false
theorem okT_cons {c : UInt8} (h : isDg c = false) (r : List UInt8) : okT (c :: r) := by
  intro a b e
  cases e
  exact h
theorem tw_all : ∀ (l t : List UInt8), (∀ c ∈ l, isDg c = true) → okT t → (l ++ t).takeWhile isDg = l
  | [], [], _, _ => rfl
  | [], c :: r, _, ht => by simp [List.takeWhile_cons, ht c r rfl]
  | c :: l, t, h, ht => by
    rw [List.cons_append, List.takeWhile_cons, h c (by simp), if_pos rfl, tw_all l t (fun x hx => h x (by simp [hx])) ht]
theorem tw_app : ∀ (l t : List UInt8), okT t → (l ++ t).takeWhile isDg = l.takeWhile isDg
  | [], [], _ => rfl
  | [], c :: r, ht => by simp [List.takeWhile_cons, ht c r rfl]
  | c :: l, t, ht => by
    rw [List.cons_append, List.takeWhile_cons, List.takeWhile_cons, tw_app l t ht]
theorem signL_cons (c : UInt8) (l : List UInt8) : signL (c :: l) = if c = 45 then [45] else [] := by
  by_cases h : c = 45
  · subst h; rfl
  · rw [if_neg h]
    unfold signL
    split
    · rename_i h2; cases h2; exact absurd rfl h
    · rfl
theorem digitL_itoa {n : Int} (h : InI n) {t : List UInt8} (ht : okT t) : digitL (itoa n ++ t) = .ok (n, t) := by
  have hp := parse_itoa h
  have key : allL (itoa n ++ t) = itoa n ∧ ¬ (1 < (digitsL (itoa n ++ t)).length ∧ (digitsL (itoa n ++ t)).head? = some 48) := by
    unfold allL digitsL itoa
    by_cases hn : n < 0
    · rw [if_pos hn, List.cons_append, signL_cons, if_pos rfl]
      simp only [List.length_cons, List.length_nil, List.drop_succ_cons, List.drop_zero]
      rw [tw_all _ _ (decDigits_dg _) ht]
      refine ⟨rfl, fun ⟨_, h2⟩ => ?_⟩
      have := decDigits_head _ h2
      omega
    · rw [if_neg hn]
      have hdg := decDigits_dg n.toNat
      have hne := decDigits_ne n.toNat
      have hhd := decDigits_head n.toNat
      have hz : n.toNat = 0 → (decDigits n.toNat).length = 1 := fun e => by rw [e, decDigits_one (by omega)]; rfl
      generalize decDigits n.toNat = l at *
      cases l with
      | nil => exact absurd rfl hne
      | cons c r =>
        have hc : c ≠ 45 := by
          rintro rfl
          have := hdg 45 (by simp)
          exact absurd this (by decide)
        rw [List.cons_append, signL_cons, if_neg hc]
        simp only [List.length_nil, List.drop_zero, List.nil_append]
        rw [← List.cons_append, tw_all _ _ hdg ht]
        refine ⟨rfl, fun ⟨h1, h2⟩ => ?_⟩
        have := hz (hhd h2)
        omega
  unfold digitL
  rw [key.1, hp]
  simp only
  rw [if_neg key.2]
  simp
theorem signed_range {h : Nat} {x : NumEnd Nat} {v : Int} (e : signedC h x = .ok v) : -(h : Int) ≤ v ∧ v ≤ 0 := by
  rcases x with u | _ | _
  · simp only [signedC] at e
    split at e
    · cases e
    · have := NumEnd.ok.inj e; omega
  · cases e
  · cases e
theorem signless_range {h : Nat} {x : NumEnd Nat} {v : Int} (e : signlessC h x = .ok v) : 0 ≤ v ∧ v < h := by
  rcases x with u | _ | _
  · simp only [signlessC] at e
    split at e
    · cases e
    · have := NumEnd.ok.inj e; omega
  · cases e
  · cases e
theorem parse_range {l : List UInt8} {v : Int} (h : parseIntB 64 l = .ok v) : InI v := by
  have e2 : (2 : Nat) ^ (64 - 1) = 9223372036854775808 := by decide
  unfold InI
  cases l with
  | nil => cases h
  | cons c r =>
    by_cases c1 : c.toNat = 43
    · have : c = 43 := UInt8.toNat_inj.1 c1
      subst this
      rw [parseIntB_plus, e2] at h
      have := signless_range h
      omega
    · by_cases c2 : c.toNat = 45
      · have : c = 45 := UInt8.toNat_inj.1 c2
        subst this
        rw [parseIntB_minus, e2] at h
        have := signed_range h
        omega
      · rw [parseIntB_plain _ _ _ c1 c2, e2] at h
        have := signless_range h
        omega
theorem digitL_more {l r : List UInt8} {n : Int} (h : digitL l = .ok (n, r)) : InI n ∧ r.length < l.length ∧ ∀ t, okT t → digitL (l ++ t) = .ok (n, r ++ t) := by
  unfold digitL at h
  rcases hp : parseIntB 64 (allL l) with x | _ | _
  rotate_left
  · rw [hp] at h; cases h
  · rw [hp] at h; cases h
  · rw [hp] at h
    simp only at h
    by_cases hc : 1 < (digitsL l).length ∧ (digitsL l).head? = some 48
    · rw [if_pos hc] at h; cases h
    · rw [if_neg hc] at h
      obtain ⟨rfl, rfl⟩ := Prod.mk.inj (Except.ok.inj h)
      have hne : allL l ≠ [] := fun e => by rw [e] at hp; cases hp
      have hl : l ≠ [] := fun e => by subst e; exact hne rfl
      have hpos : 0 < (allL l).length := List.length_pos_iff.2 hne
      have hlen : 0 < l.length := List.length_pos_iff.2 hl
      have key : ∀ t, okT t → allL (l ++ t) = allL l ∧ digitsL (l ++ t) = digitsL l := fun t ht => by
        cases l with
        | nil => exact absurd rfl hl
        | cons c q =>
          unfold allL digitsL
          rw [List.cons_append, signL_cons, signL_cons]
          by_cases c45 : c = 45
          · rw [if_pos c45]
            simp only [List.length_cons, List.length_nil, List.drop_succ_cons, List.drop_zero]
            rw [tw_app q t ht]
            exact ⟨rfl, rfl⟩
          · rw [if_neg c45]
            simp only [List.length_nil, List.drop_zero]
            rw [← List.cons_append, tw_app (c :: q) t ht]
            exact ⟨rfl, rfl⟩
      have hall : (allL l).length ≤ l.length := by
        cases l with
        | nil => exact absurd rfl hl
        | cons c q =>
          unfold allL digitsL
          rw [signL_cons]
          by_cases c45 : c = 45
          · rw [if_pos c45]
            simp only [List.length_cons, List.length_nil, List.drop_succ_cons, List.drop_zero, List.length_append]
            have := (List.takeWhile_sublist isDg (l := q)).length_le
            omega
          · rw [if_neg c45]
            simp only [List.length_nil, List.drop_zero, List.nil_append]
            exact (List.takeWhile_sublist isDg (l := c :: q)).length_le
      refine ⟨parse_range hp, by rw [List.length_drop]; omega, fun t ht => ?_⟩
      obtain ⟨k1, k2⟩ := key t ht
      unfold digitL
      rw [k1, k2, hp]
      simp only
      rw [if_neg hc, List.drop_append_of_le_length hall]

/-! ### What a text begins with -/
def headJ (c : UInt8) : Bool := isDg c || c == 45 || c == 34 || c == 91 || c == 123 || c == 110 || c == 116 || c == 102
theorem byte_all {p : UInt8 → Bool} (h : ∀ i : Fin 256, p (UInt8.ofNat i.1) = true) (c : UInt8) : p c = true := by
  have := h ⟨c.toNat, c.toNat_lt⟩
  rwa [UInt8.ofNat_toNat] at this
theorem head_fine {c : UInt8} (h : headJ c = true) : isWs c = false ∧ c ≠ 93 ∧ c ≠ 125 ∧ c ≠ 44 ∧ c ≠ 58 := by
  have := byte_all (p := fun c => !headJ c || (!isWs c && (c != 93 && (c != 125 && (c != 44 && c != 58))))) (by decide +kernel) c
  simpa [h] using this
theorem jtext_head (v : Js) : ∃ c r, jtext v = c :: r ∧ headJ c = true := by
  obtain ⟨k, y, n, s, ks, l⟩ := v
  rw [jtext]
  by_cases c1 : k = 1
  · rw [if_pos c1]; cases y
    · exact ⟨102, _, rfl, by decide⟩
    · exact ⟨116, _, rfl, by decide⟩
  · rw [if_neg c1]
    by_cases c2 : k = 2
    · rw [if_pos c2]
      unfold itoa
      by_cases hn : n < 0
      · rw [if_pos hn]; exact ⟨45, _, rfl, by decide⟩
      · rw [if_neg hn]
        have hdg := decDigits_dg n.toNat
        have hne := decDigits_ne n.toNat
        generalize decDigits n.toNat = l at *
        cases l with
        | nil => exact absurd rfl hne
        | cons c r => exact ⟨c, r, rfl, by unfold headJ; rw [hdg c (by simp)]; rfl⟩
    · rw [if_neg c2]
      by_cases c3 : k = 3
      · rw [if_pos c3]; exact ⟨34, _, rfl, by decide⟩
      · rw [if_neg c3]
        by_cases c4 : k = 4
        · rw [if_pos c4]; exact ⟨91, _, rfl, by decide⟩
        · rw [if_neg c4]
          by_cases c5 : k = 5
          · rw [if_pos c5]; exact ⟨123, _, rfl, by decide⟩
          · rw [if_neg c5]; exact ⟨110, _, rfl, by decide⟩
theorem skip_head {c : UInt8} {r : List UInt8} (h : isWs c = false) : skipL (c :: r) = c :: r := by
  unfold skipL
  rw [List.dropWhile_cons, h]
  rfl
theorem skip_text (v : Js) (t : List UInt8) : skipL (jtext v ++ t) = jtext v ++ t := by
  obtain ⟨c, r, e, h⟩ := jtext_head v
  rw [e, List.cons_append]
  exact skip_head (head_fine h).1
theorem takeP_no {p c : UInt8} {ps r : List UInt8} (h : p ≠ c) : takeP (p :: ps) (c :: r) = none := by
  simp only [takeP, if_neg h]

/-! ### Lists and objects -/
theorem thenL_end (obj : Bool) (t : List UInt8) : thenL obj (endJ obj :: t) = .ok (true, t) := by
  unfold thenL
  rw [skip_head (by cases obj <;> decide)]
  simp
theorem thenL_more (obj : Bool) (t : List UInt8) : thenL obj (44 :: t) = .ok (false, t) := by
  unfold thenL
  rw [skip_head (by decide)]
  cases obj <;> simp [endJ]
theorem sep_cons (x : List UInt8) (y : List UInt8) (l : List (List UInt8)) : sepL (x :: y :: l) = x ++ 44 :: sepL (y :: l) := rfl
theorem items_list (val : List UInt8 → Got) (tail : List UInt8) : ∀ (l acc : List Js) (m : Nat), l ≠ [] → l.length ≤ m → (∀ x ∈ l, ∀ t, okT t → val (jtext x ++ t) = .ok (x, t)) →
    itemsGo val false m [] acc (sepL (l.map jtext) ++ 93 :: tail) = .ok (mkJ false [] (acc ++ l), tail)
  | [], _, _, h, _, _ => absurd rfl h
  | [x], acc, m, _, hm, hv => by
    obtain ⟨k, rfl⟩ : ∃ k, m = k + 1 := ⟨m - 1, by simp at hm; omega⟩
    have e : sepL ([x].map jtext) = jtext x := rfl
    rw [e, itemsGo]
    simp only [Bool.false_eq_true, if_false]
    rw [skip_text, hv x (by simp) _ (okT_cons (by decide) _)]
    simp only
    rw [show (93 : UInt8) :: tail = endJ false :: tail from rfl, thenL_end]
  | x :: y :: l, acc, m, _, hm, hv => by
    obtain ⟨k, rfl⟩ : ∃ k, m = k + 1 := ⟨m - 1, by simp at hm; omega⟩
    have e : sepL ((x :: y :: l).map jtext) ++ 93 :: tail = jtext x ++ (44 :: (sepL ((y :: l).map jtext) ++ 93 :: tail)) := by
      simp only [List.map_cons, sep_cons, List.append_assoc, List.cons_append]
    rw [e, itemsGo]
    simp only [Bool.false_eq_true, if_false]
    rw [skip_text, hv x (by simp) _ (okT_cons (by decide) _)]
    simp only
    rw [thenL_more]
    simp only
    rw [items_list val tail (y :: l) (acc ++ [x]) k (by simp) (by simp at hm ⊢; omega) (fun z hz => hv z (by simp only [List.mem_cons] at hz ⊢; exact .inr hz))]
    simp
theorem keyL_pair {keys : List ByteArray} {k : ByteArray} (hv : validB k = true) (hk : inB k keys = false) (x : Js) (t : List UInt8) : keyL keys (skipL (quoteL k.data.toList ++ 58 :: (jtext x ++ t))) = .ok (k, jtext x ++ t) := by
  unfold keyL quoteL
  rw [List.cons_append, skip_head (by decide)]
  simp only [takeP, if_true]
  rw [List.append_assoc, List.singleton_append, wordL_quote hv]
  simp only
  rw [bs_of, hk, skip_head (by decide)]
  simp only [takeP, if_true, Bool.false_eq_true, if_false]
  rw [skip_text]
theorem items_object (val : List UInt8 → Got) (tail : List UInt8) : ∀ (l : List Js) (ks keys : List ByteArray) (acc : List Js) (m : Nat), l ≠ [] → ks.length = l.length → keysGo keys ks = true → l.length ≤ m → (∀ x ∈ l, ∀ t, okT t → val (jtext x ++ t) = .ok (x, t)) →
    itemsGo val true m keys acc (sepL (pairL ks (l.map jtext)) ++ 125 :: tail) = .ok (mkJ true (keys ++ ks) (acc ++ l), tail)
  | [], _, _, _, _, h, _, _, _, _ => absurd rfl h
  | [x], ks, keys, acc, m, _, hks, hkg, hm, hv => by
    obtain ⟨j, rfl⟩ : ∃ j, m = j + 1 := ⟨m - 1, by simp at hm; omega⟩
    match ks, hks with
    | [k], _ =>
      simp only [keysGo, Bool.and_eq_true, Bool.not_eq_true'] at hkg
      have e : sepL (pairL [k] ([x].map jtext)) ++ 125 :: tail = quoteL k.data.toList ++ 58 :: (jtext x ++ 125 :: tail) := by simp [pairL, sepL]
      rw [e, itemsGo]
      simp only [if_true]
      rw [keyL_pair hkg.1 hkg.2.1]
      simp only
      rw [hv x (by simp) _ (okT_cons (by decide) _)]
      simp only
      rw [show (125 : UInt8) :: tail = endJ true :: tail from rfl, thenL_end]
  | x :: y :: l, ks, keys, acc, m, _, hks, hkg, hm, hv => by
    obtain ⟨j, rfl⟩ : ∃ j, m = j + 1 := ⟨m - 1, by simp at hm; omega⟩
    match ks, hks with
    | k :: k2 :: ks, hks =>
      have hkg2 : keysGo (keys ++ [k]) (k2 :: ks) = true := by
        rw [keysGo] at hkg
        simp only [Bool.and_eq_true] at hkg
        exact hkg.2.2
      rw [keysGo] at hkg
      simp only [Bool.and_eq_true, Bool.not_eq_true'] at hkg
      have e : sepL (pairL (k :: k2 :: ks) ((x :: y :: l).map jtext)) ++ 125 :: tail = quoteL k.data.toList ++ 58 :: (jtext x ++ (44 :: (sepL (pairL (k2 :: ks) ((y :: l).map jtext)) ++ 125 :: tail))) := by
        simp only [List.map_cons, pairL, sep_cons, List.append_assoc, List.cons_append]
      rw [e, itemsGo]
      simp only [if_true]
      rw [keyL_pair hkg.1 hkg.2.1]
      simp only
      rw [hv x (by simp) _ (okT_cons (by decide) _)]
      simp only
      rw [thenL_more]
      simp only
      rw [items_object val tail (y :: l) (k2 :: ks) (keys ++ [k]) (acc ++ [x]) j (by simp) (by simpa using hks) hkg2 (by simp at hm ⊢; omega) (fun z hz => hv z (by simp only [List.mem_cons] at hz ⊢; exact .inr hz))]
      simp
theorem sep_len : ∀ (l : List (List UInt8)), (∀ x ∈ l, x ≠ []) → l.length ≤ (sepL l).length
  | [], _ => Nat.le_refl _
  | [x], h => by
    have := List.length_pos_iff.2 (h x (by simp))
    simp [sepL]; omega
  | x :: y :: l, h => by
    have := sep_len (y :: l) (fun z hz => h z (by simp only [List.mem_cons] at hz ⊢; exact .inr hz))
    rw [sep_cons]
    simp at this ⊢
    omega
theorem pair_len : ∀ (ks : List ByteArray) (l : List (List UInt8)), ks.length = l.length → (pairL ks l).length = l.length
  | [], [], _ => rfl
  | k :: ks, x :: l, h => by simp only [pairL, List.length_cons]; rw [pair_len ks l (by simpa using h)]
  | [], x :: l, h => by simp at h
  | k :: ks, [], h => by simp at h
theorem pair_ne : ∀ (ks : List ByteArray) (l : List (List UInt8)), ∀ x ∈ pairL ks l, x ≠ []
  | k :: ks, x :: l, z, hz => by
    simp only [pairL, List.mem_cons] at hz
    rcases hz with rfl | hz
    · simp [quoteL]
    · exact pair_ne ks l z hz
  | [], _, z, hz => by simp [pairL] at hz
  | _ :: _, [], z, hz => by simp [pairL] at hz

theorem right_items {d : Nat} {v : Js} (h : rightJ d v = true) : ownJ d v = true ∧ ∀ x ∈ v.l, ∃ e, d = e + 1 ∧ rightJ e x = true := by
  cases d with
  | zero =>
    refine ⟨h, fun x hx => ?_⟩
    rw [own_zero h] at hx
    cases hx
  | succ d =>
    rw [rightJ, Bool.and_eq_true, List.all_eq_true] at h
    exact ⟨h.1, fun x hx => ⟨d, rfl, h.2 x hx⟩⟩
theorem plain_head {c : UInt8} {r : List UInt8} {d : Nat} (h1 : c ≠ 34) (h2 : c ≠ 91) (h3 : c ≠ 123) : valueL d (c :: r) = plainL (c :: r) := by
  rw [valueL.eq_def]
  simp only
  rw [if_neg h1, if_neg (by simp [h2, h3])]
theorem plain_num {n : Int} (h : InI n) {t : List UInt8} (ht : okT t) (d : Nat) : valueL d (itoa n ++ t) = .ok (numJ n, t) := by
  obtain ⟨c, r, e, hc⟩ : ∃ c r, itoa n = c :: r ∧ (isDg c = true ∨ c = 45) := by
    unfold itoa
    by_cases hn : n < 0
    · rw [if_pos hn]; exact ⟨45, _, rfl, .inr rfl⟩
    · rw [if_neg hn]
      have hdg := decDigits_dg n.toNat
      have hne := decDigits_ne n.toNat
      generalize decDigits n.toNat = l at *
      cases l with
      | nil => exact absurd rfl hne
      | cons c r => exact ⟨c, r, rfl, .inl (hdg c (by simp))⟩
  have hd := digitL_itoa h ht
  rw [e, List.cons_append] at hd ⊢
  have hx : c ≠ 34 ∧ c ≠ 91 ∧ c ≠ 123 ∧ 110 ≠ c ∧ 116 ≠ c ∧ 102 ≠ c := by
    have := byte_all (p := fun c => !(isDg c || c == 45) || (c != 34 && (c != 91 && (c != 123 && (110 != c && (116 != c && 102 != c)))))) (by decide +kernel) c
    have h2 : (isDg c || c == 45) = true := by simpa using hc
    simpa [h2] using this
  rw [plain_head hx.1 hx.2.1 hx.2.2.1]
  unfold plainL
  rw [takeP_no hx.2.2.2.1, takeP_no hx.2.2.2.2.1, takeP_no hx.2.2.2.2.2, hd]
theorem jtext_ne (v : Js) : jtext v ≠ [] := by
  obtain ⟨c, r, e, _⟩ := jtext_head v
  rw [e]; simp
theorem own_mk (d : Nat) (k : Int) (y : Bool) (n : Int) (s : ByteArray) (ks : List ByteArray) (l : List Js) : ownJ d (.mk k y n s ks l) =
  if k = 0 then decide (l.length = 0) && decide (ks.length = 0) && (!y && decide (n = 0) && decide (s = ByteArray.empty))
  else if k = 1 then decide (l.length = 0) && decide (ks.length = 0) && decide (n = 0) && decide (s = ByteArray.empty)
  else if k = 2 then decide (l.length = 0) && decide (ks.length = 0) && !y && decide (s = ByteArray.empty)
  else if k = 3 then decide (l.length = 0) && decide (ks.length = 0) && !y && decide (n = 0) && validB s
  else if k = 4 then (!y && decide (n = 0) && decide (s = ByteArray.empty)) && decide (ks.length = 0) && decide (0 < d)
  else if k = 5 then (!y && decide (n = 0) && decide (s = ByteArray.empty)) && decide (ks.length = l.length) && keysOk ks && decide (0 < d)
  else false := rfl
set_option maxHeartbeats 1000000 in
/-- What is printed is read as it was. -/
theorem value_text (v : Js) : ∀ d, rightJ d v = true → fitJ v → ∀ t, okT t → valueL d (jtext v ++ t) = .ok (v, t) := by
  induction v using Js.ind with
  | _ v ih =>
    intro d hr hf t ht
    obtain ⟨ho, hi⟩ := right_items hr
    obtain ⟨hn, hfi⟩ := fitJ_iff.1 hf
    obtain ⟨k, y, n, s, ks, l⟩ := v
    simp only [Js.l, Js.n] at ih hi hn hfi
    have ihv : ∀ e, d = e + 1 → ∀ x ∈ l, ∀ t, okT t → valueL e (jtext x ++ t) = .ok (x, t) := fun e he x hx t ht => by
      obtain ⟨e2, h1, h2⟩ := hi x hx
      obtain rfl : e = e2 := by omega
      exact ih x hx e h2 (hfi x hx) t ht
    rw [own_mk] at ho
    rw [jtext]
    by_cases c0 : k = 0
    · rw [if_pos c0] at ho
      simp only [Bool.and_eq_true, decide_eq_true_eq, Bool.not_eq_true', List.length_eq_zero_iff] at ho
      obtain ⟨⟨rfl, rfl⟩, ⟨rfl, rfl⟩, rfl⟩ := ho
      subst c0
      show valueL d (110 :: 117 :: 108 :: 108 :: t) = _
      rw [plain_head (by decide) (by decide) (by decide)]
      rfl
    rw [if_neg c0] at ho
    by_cases c1 : k = 1
    · rw [if_pos c1] at ho ⊢
      simp only [Bool.and_eq_true, decide_eq_true_eq, Bool.not_eq_true', List.length_eq_zero_iff] at ho
      obtain ⟨⟨⟨rfl, rfl⟩, rfl⟩, rfl⟩ := ho
      subst c1
      cases y
      · show valueL d (102 :: 97 :: 108 :: 115 :: 101 :: t) = _
        rw [plain_head (by decide) (by decide) (by decide)]
        rfl
      · show valueL d (116 :: 114 :: 117 :: 101 :: t) = _
        rw [plain_head (by decide) (by decide) (by decide)]
        rfl
    rw [if_neg c1] at ho ⊢
    by_cases c2 : k = 2
    · rw [if_pos c2] at ho ⊢
      simp only [Bool.and_eq_true, decide_eq_true_eq, Bool.not_eq_true', List.length_eq_zero_iff] at ho
      obtain ⟨⟨⟨rfl, rfl⟩, rfl⟩, rfl⟩ := ho
      subst c2
      exact plain_num hn ht d
    rw [if_neg c2] at ho ⊢
    by_cases c3 : k = 3
    · rw [if_pos c3] at ho ⊢
      simp only [Bool.and_eq_true, decide_eq_true_eq, Bool.not_eq_true', List.length_eq_zero_iff] at ho
      obtain ⟨⟨⟨⟨rfl, rfl⟩, rfl⟩, rfl⟩, hs⟩ := ho
      subst c3
      unfold quoteL
      rw [List.cons_append, List.append_assoc, List.singleton_append, valueL.eq_def]
      simp only
      rw [if_pos trivial, wordL_quote hs]
      simp only [textJ, bs_of]
    rw [if_neg c3] at ho ⊢
    by_cases c4 : k = 4
    · rw [if_pos c4] at ho ⊢
      simp only [Bool.and_eq_true, decide_eq_true_eq, Bool.not_eq_true', List.length_eq_zero_iff] at ho
      obtain ⟨⟨⟨⟨rfl, rfl⟩, rfl⟩, rfl⟩, hd⟩ := ho
      subst c4
      obtain ⟨e, rfl⟩ : ∃ e, d = e + 1 := ⟨d - 1, by omega⟩
      rw [List.cons_append, List.append_assoc, List.singleton_append, valueL.eq_def]
      simp only
      rw [if_neg (by decide), if_pos (by simp)]
      rw [jtexts_map, show decide ((91 : UInt8) = 123) = false by decide]
      unfold itemsL
      cases l with
      | nil =>
        have e1 : sepL (List.map jtext []) ++ 93 :: t = 93 :: t := rfl
        rw [e1, skip_head (by decide)]
        rfl
      | cons x l =>
        obtain ⟨c, r, hx, hc⟩ := jtext_head x
        have hs : ∃ q, sepL (List.map jtext (x :: l)) ++ 93 :: t = c :: q := by
          cases l with
          | nil => exact ⟨_, by simp only [List.map_cons, List.map_nil, sepL, hx, List.cons_append]; rfl⟩
          | cons z l => exact ⟨_, by simp only [List.map_cons, sep_cons, hx, List.cons_append]; rfl⟩
        obtain ⟨q, hq⟩ := hs
        have hsk : skipL (sepL (List.map jtext (x :: l)) ++ 93 :: t) = sepL (List.map jtext (x :: l)) ++ 93 :: t := by rw [hq]; exact skip_head (head_fine hc).1
        have htk : takeP [endJ false] (sepL (List.map jtext (x :: l)) ++ 93 :: t) = none := by rw [hq]; exact takeP_no (fun e => (head_fine hc).2.1 e.symm)
        have hln := sep_len (List.map jtext (x :: l)) (fun z hz => by obtain ⟨y, _, rfl⟩ := List.mem_map.1 hz; exact jtext_ne y)
        rw [hsk, htk]
        simp only
        rw [items_list (valueL e) t (x :: l) [] _ (by simp) (by rw [List.length_append]; rw [List.length_map] at hln; omega) (ihv e rfl)]
        rfl
    rw [if_neg c4] at ho ⊢
    by_cases c5 : k = 5
    · rw [if_pos c5] at ho ⊢
      simp only [Bool.and_eq_true, decide_eq_true_eq, Bool.not_eq_true', List.length_eq_zero_iff] at ho
      obtain ⟨⟨⟨⟨⟨rfl, rfl⟩, rfl⟩, hkl⟩, hko⟩, hd⟩ := ho
      subst c5
      obtain ⟨e, rfl⟩ : ∃ e, d = e + 1 := ⟨d - 1, by omega⟩
      rw [List.cons_append, List.append_assoc, List.singleton_append, valueL.eq_def]
      simp only
      rw [if_neg (by decide), if_pos (by simp)]
      rw [jtexts_map]
      simp only [decide_true]
      unfold itemsL
      cases l with
      | nil =>
        obtain rfl : ks = [] := List.eq_nil_of_length_eq_zero hkl
        have e1 : sepL (pairL [] (List.map jtext [])) ++ 125 :: t = 125 :: t := rfl
        rw [e1, skip_head (by decide)]
        rfl
      | cons x l =>
        match ks, hkl, hko with
        | key :: ks, hkl, hko =>
          have hs : ∃ q, sepL (pairL (key :: ks) (List.map jtext (x :: l))) ++ 125 :: t = 34 :: q := by
            simp only [List.map_cons, pairL]
            cases hp : pairL ks (List.map jtext l) with
            | nil => exact ⟨_, by simp only [sepL, quoteL, List.cons_append]; rfl⟩
            | cons z m => exact ⟨_, by simp only [sep_cons, quoteL, List.cons_append]; rfl⟩
          obtain ⟨q, hq⟩ := hs
          have hsk : skipL (sepL (pairL (key :: ks) (List.map jtext (x :: l))) ++ 125 :: t) = sepL (pairL (key :: ks) (List.map jtext (x :: l))) ++ 125 :: t := by rw [hq]; exact skip_head (by decide)
          have htk : takeP [endJ true] (sepL (pairL (key :: ks) (List.map jtext (x :: l))) ++ 125 :: t) = none := by rw [hq]; exact takeP_no (by decide)
          have hln := sep_len (pairL (key :: ks) (List.map jtext (x :: l))) (pair_ne _ _)
          rw [pair_len _ _ (by rw [List.length_map]; exact hkl), List.length_map] at hln
          rw [hsk, htk]
          simp only
          rw [items_object (valueL e) t (x :: l) (key :: ks) [] [] _ (by simp) hkl hko (by rw [List.length_append]; omega) (ihv e rfl)]
          rfl
    · rw [if_neg c5] at ho
      cases ho
theorem parse_text {v : Js} (h : rightJ 64 v = true) (hf : fitJ v) : parseL (jtext v) = .ok v := by
  have h1 := value_text v 64 h hf [] (fun c r e => by cases e)
  have h2 := skip_text v []
  rw [List.append_nil] at h1 h2
  unfold parseL
  rw [h2, h1]
  rfl
end Go.Proofs.YtamclieppbnpiabGreatDoor
