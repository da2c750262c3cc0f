/-
  How long texts are; a text's text rune by rune. No program here.
-/
import Derived.Test.YtamclieppbnpiabGreatDoorProg
import Derived.Test.YtamclieppbnpiabGreatDoorReg
import Derived.WalkKit
import Derived.WalkSpells
import Derived.WalkLawsBesides
import Derived.Lib.Hide
import Derived.Lib.MinMax
import Derived.Deep.QuietTactic
import Derived.BigQuiet
import Derived.OwnWalk
import Derived.Deep.AppendLies
import Derived.KernelRfl
import Derived.Lib.ItoaLen
import Derived.Lib.RuneBytes
import Derived.Laws.RangeAny
import Derived.Test.YtamclieppbnpiabGreatDoorJw4
set_option linter.unusedSimpArgs false
set_option linter.unusedVariables false
namespace Go.Proofs.YtamclieppbnpiabGreatDoor
open Go.RowKit Go.Lib

/-! ### Rune by rune -/
theorem wide_head {c : UInt8} {r : List UInt8} (h : 128 ≤ (decodeL (c :: r)).1) : 128 ≤ c.toNat := by
  by_cases hc : c.toNat < 128
  · rw [decodeL_ascii c r hc] at h; exact h
  · omega
theorem small_head {c : UInt8} {r : List UInt8} (h : (decodeL (c :: r)).1 < 128) : c.toNat < 128 := by
  by_cases hc : c.toNat < 128
  · exact hc
  · exfalso
    have h1 := (decode_high ⟨(c :: r).toArray⟩ 0 (by simp [ByteArray.size]) (by
      show 128 ≤ ((c :: r).toArray[0]).toNat
      simpa using hc)).1
    have h2 : (decodeL (c :: r)).1 = (Utf8.decode ⟨(c :: r).toArray⟩ 0).1 := rfl
    omega
theorem quote_wide {l : List UInt8} (hne : l ≠ []) (hv : validD l = true) (h : 128 ≤ (decodeL l).1) : l.flatMap escB = encodeRune ((decodeL l).1 : Int) ++ (l.drop (decodeL l).2).flatMap escB := by
  obtain ⟨hf, hd⟩ := valid_fine hne hv
  have e := encode_decode l hne hf
  have hh : 128 ≤ (l.headD 0).toNat := by
    cases l with
    | nil => exact absurd rfl hne
    | cons c r => exact wide_head h
  rw [e]
  conv => lhs; rw [← List.take_append_drop (decodeL l).2 l]
  rw [List.flatMap_append, flat_high _ (fine_high hne hf hh)]

/-! ### How long -/
theorem escB_len (c : UInt8) : 1 ≤ (escB c).length ∧ (escB c).length ≤ 6 := by
  unfold escB
  split
  · simp
  · split <;> simp
theorem flat_len (l : List UInt8) : l.length ≤ (l.flatMap escB).length ∧ (l.flatMap escB).length ≤ 6 * l.length := by
  induction l with
  | nil => simp
  | cons c l ih =>
    have := escB_len c
    simp only [List.flatMap_cons, List.length_append, List.length_cons]
    omega
theorem quote_len (l : List UInt8) : l.length + 2 ≤ (quoteL l).length ∧ (quoteL l).length ≤ 6 * l.length + 2 := by
  have := flat_len l
  unfold quoteL
  simp only [List.length_cons, List.length_append, List.length_nil]
  omega
theorem encode_len (r : Int) : (encodeRune r).length ≤ 4 := by
  rw [← runeCells_length]
  exact (runeCells_le r).2
theorem hex4_len {l q : List UInt8} {m : Nat} (h : hex4 l = some (m, q)) : q.length + 4 = l.length := hexGo_len _ _ _ _ _ h
theorem second_len {n : Nat} {l x q : List UInt8} (h : secondL n l = .ok (x, q)) : x.length + q.length ≤ l.length := by
  unfold secondL at h
  cases h1 : takeP [92, 117] l with
  | none => rw [h1] at h; cases h
  | some r =>
    rw [h1] at h; simp only at h
    have l1 := takeP_len h1
    cases h2 : hex4 r with
    | none => rw [h2] at h; cases h
    | some p =>
      obtain ⟨m, u⟩ := p
      rw [h2] at h; simp only at h
      have l2 := hex4_len h2
      split at h
      · obtain ⟨rfl, rfl⟩ := Prod.mk.inj (Except.ok.inj h)
        have := encode_len (((65536 + (n - 55296) * 1024 + m - 56320 : Nat) : Int))
        simp at l1
        omega
      · cases h
theorem escape_len {l x q : List UInt8} (h : escapeL l = .ok (x, q)) : x.length + q.length ≤ l.length := by
  cases l with
  | nil => cases h
  | cons c l =>
    simp only [escapeL] at h
    cases h1 : simpleL c with
    | some y =>
      rw [h1] at h; simp only at h
      obtain ⟨rfl, rfl⟩ := Prod.mk.inj (Except.ok.inj h)
      simp; omega
    | none =>
      rw [h1] at h; simp only at h
      split at h
      · cases h
      · cases h2 : hex4 l with
        | none => rw [h2] at h; cases h
        | some p =>
          obtain ⟨m, u⟩ := p
          rw [h2] at h; simp only at h
          have l2 := hex4_len h2
          split at h
          · obtain ⟨rfl, rfl⟩ := Prod.mk.inj (Except.ok.inj h)
            have := encode_len (m : Int)
            simp
            omega
          · split at h
            · cases h
            · have := second_len h
              simp
              omega
theorem wordGo_len : ∀ (k : Nat) (acc l w q : List UInt8), wordGo k acc l = .ok (w, q) → w.length + q.length + 1 ≤ acc.length + l.length
  | 0, acc, l, w, q, h => by cases h
  | k + 1, acc, [], w, q, h => by cases h
  | k + 1, acc, c :: r, w, q, h => by
    simp only [wordGo] at h
    by_cases h1 : c.toNat < 32 ∨ (128 ≤ c.toNat ∧ (decodeL (c :: r)).2 = 1)
    · rw [if_pos h1] at h; cases h
    · rw [if_neg h1] at h
      by_cases h34 : c = 34
      · rw [if_pos h34] at h
        cases h
        simp; omega
      · rw [if_neg h34] at h
        by_cases h92 : c = 92
        · rw [if_pos h92] at h
          cases he : escapeL r with
          | error e => rw [he] at h; cases h
          | ok p =>
            obtain ⟨x, u⟩ := p
            rw [he] at h; simp only at h
            have l1 := escape_len he
            have := wordGo_len k (acc ++ x) u w q h
            simp at this ⊢
            omega
        · rw [if_neg h92] at h
          have hle := decodeL_le (c :: r) (by simp)
          have := wordGo_len k _ _ w q h
          rw [List.length_append, List.length_take, List.length_drop] at this
          omega
theorem wordL_len {l w q : List UInt8} (h : wordL l = .ok (w, q)) : w.length + q.length + 1 ≤ l.length := by
  have := wordGo_len _ _ _ _ _ h
  simpa using this
theorem itoa_le {n : Int} (h : InI n) : (itoa n).length ≤ 21 := itoa_length_le n h.1 h.2
theorem keyL_len {keys : List ByteArray} {l r : List UInt8} {k : ByteArray} (h : keyL keys l = .ok (k, r)) : k.size + r.length + 2 ≤ l.length := by
  unfold keyL at h
  cases h1 : takeP [34] l with
  | none => rw [h1] at h; cases h
  | some u =>
    rw [h1] at h; simp only at h
    have l1 := takeP_len h1
    cases h2 : wordL u with
    | error e => rw [h2] at h; cases h
    | ok p =>
      obtain ⟨w, q⟩ := p
      rw [h2] at h; simp only at h
      have l2 := wordL_len h2
      split at h
      · cases h
      · cases h3 : takeP [58] (skipL q) with
        | none => rw [h3] at h; cases h
        | some t =>
          rw [h3] at h; simp only at h
          obtain ⟨rfl, rfl⟩ := Prod.mk.inj (Except.ok.inj h)
          have l3 := takeP_len h3
          have l4 := skip_len q
          have l5 := skip_len t
          rw [bs_size]
          simp at l1 l3
          omega
theorem sep_app : ∀ (a : List (List UInt8)) (x : List UInt8), (sepL (a ++ [x])).length ≤ (sepL a).length + 1 + x.length
  | [], x => by simp [sepL]
  | [y], x => by simp [sepL]; omega
  | y :: z :: a, x => by
    have := sep_app (z :: a) x
    rw [List.cons_append, List.cons_append, sep_cons, sep_cons]
    simp only [List.length_append, List.length_cons] at this ⊢
    rw [List.cons_append] at this
    omega
theorem pair_app : ∀ (ks : List ByteArray) (l : List (List UInt8)) (k : ByteArray) (x : List UInt8), ks.length = l.length → pairL (ks ++ [k]) (l ++ [x]) = pairL ks l ++ [quoteL k.data.toList ++ 58 :: x]
  | [], [], k, x, _ => rfl
  | y :: ks, z :: l, k, x, h => by
    simp only [List.cons_append, pairL]
    rw [pair_app ks l k x (by simpa using h)]
  | [], x :: l, _, _, h => by simp at h
  | k :: ks, [], _, _, h => by simp at h
/-- How long a list's inner text is. -/
def innerL (obj : Bool) (keys : List ByteArray) (l : List Js) : List UInt8 := if obj then sepL (pairL keys (l.map jtext)) else sepL (l.map jtext)
theorem mkJ_text (obj : Bool) (keys : List ByteArray) (l : List Js) : (jtext (mkJ obj keys l)).length = (innerL obj keys l).length + 2 := by
  unfold mkJ innerL
  cases obj with
  | false => simp [jtext, kindJ, jtexts_map]
  | true => simp [jtext, kindJ, jtexts_map]
def LenV (val : List UInt8 → Got) : Prop := ∀ l v r, val l = .ok (v, r) → (jtext v).length + 30 * r.length ≤ 30 * l.length
theorem entJ_len {obj : Bool} {keys ks : List ByteArray} {l r : List UInt8} {acc : List Js} (x : Js) (h : entJ obj keys l = .ok (ks, r)) (hk : obj = true → keys.length = acc.length) : (innerL obj ks (acc ++ [x])).length + 30 * r.length ≤ (innerL obj keys acc).length + 1 + (jtext x).length + 30 * l.length ∧ (obj = true → ks.length = (acc ++ [x]).length) := by
  have l1 := skip_len l
  unfold entJ at h
  unfold innerL
  cases obj with
  | false =>
    simp only [Bool.false_eq_true, if_false] at h ⊢
    obtain ⟨rfl, rfl⟩ := Prod.mk.inj (Except.ok.inj h)
    have := sep_app (acc.map jtext) (jtext x)
    rw [List.map_append, List.map_singleton]
    exact ⟨by omega, fun e => e.elim⟩
  | true =>
    simp only [if_true] at h ⊢
    cases hq : keyL keys (skipL l) with
    | error e => rw [hq] at h; cases h
    | ok p =>
      obtain ⟨k, u⟩ := p
      rw [hq] at h; simp only at h
      obtain ⟨rfl, rfl⟩ := Prod.mk.inj (Except.ok.inj h)
      have l2 := keyL_len hq
      have hk := hk rfl
      rw [List.map_append, List.map_singleton, pair_app _ _ _ _ (by simpa using hk)]
      have := sep_app (pairL keys (acc.map jtext)) (quoteL k.data.toList ++ 58 :: jtext x)
      have l3 := (quote_len k.data.toList).2
      have l4 : k.data.toList.length = k.size := Array.length_toList
      simp only [List.length_append, List.length_cons] at this ⊢
      refine ⟨by omega, fun _ => by simpa using hk⟩
theorem thenL_len {obj b : Bool} {l r : List UInt8} (h : thenL obj l = .ok (b, r)) : r.length + 1 ≤ l.length := by
  have := (thenL_more' h).1
  omega
theorem itemsGo_lenV {val : List UInt8 → Got} (H : LenV val) (obj : Bool) : ∀ (m : Nat) (keys : List ByteArray) (acc : List Js) (l : List UInt8) (v : Js) (r : List UInt8), itemsGo val obj m keys acc l = .ok (v, r) →
    (obj = true → keys.length = acc.length) → (jtext v).length + 30 * r.length ≤ (innerL obj keys acc).length + 30 * l.length
  | 0, _, _, _, _, _, h, _ => by cases h
  | m + 1, keys, acc, l, v, r, h, hk => by
    rw [itemsGo_succ] at h
    cases h1 : entJ obj keys l with
    | error e => rw [h1] at h; cases h
    | ok p =>
      obtain ⟨ks, r1⟩ := p
      rw [h1] at h; simp only at h
      cases h2 : val r1 with
      | error e => rw [h2] at h; cases h
      | ok p =>
        obtain ⟨x, q⟩ := p
        rw [h2] at h; simp only at h
        have b1 := H _ _ _ h2
        obtain ⟨a1, a2⟩ := entJ_len x h1 hk
        cases h3 : thenL obj q with
        | error e => rw [h3] at h; cases h
        | ok p =>
          obtain ⟨b, u⟩ := p
          rw [h3] at h
          have c1 := thenL_len h3
          cases b with
          | true =>
            simp only at h
            obtain ⟨rfl, rfl⟩ := Prod.mk.inj (Except.ok.inj h)
            rw [mkJ_text]
            omega
          | false =>
            simp only at h
            have := itemsGo_lenV H obj m ks (acc ++ [x]) u v r h a2
            omega
theorem items_lenV {val : List UInt8 → Got} (H : LenV val) (obj : Bool) {l r : List UInt8} {v : Js} (h : itemsL val obj l = .ok (v, r)) : (jtext v).length + 30 * r.length ≤ 30 * l.length + 2 := by
  have l1 := skip_len l
  unfold itemsL at h
  cases h1 : takeP [endJ obj] (skipL l) with
  | some q =>
    rw [h1] at h; simp only at h
    obtain ⟨rfl, rfl⟩ := Prod.mk.inj (Except.ok.inj h)
    rw [mkJ_text]
    have l2 := takeP_len h1
    have : (innerL obj [] []).length = 0 := by unfold innerL; cases obj <;> rfl
    simp at l2
    omega
  | none =>
    rw [h1] at h; simp only at h
    have := itemsGo_lenV H obj _ _ _ _ _ _ h (fun _ => rfl)
    have e : (innerL obj [] []).length = 0 := by unfold innerL; cases obj <;> rfl
    omega
theorem plain_lenV : LenV plainL := by
  intro l v r h
  unfold plainL at h
  cases h1 : takeP [110, 117, 108, 108] l with
  | some q =>
    rw [h1] at h; simp only at h
    obtain ⟨rfl, rfl⟩ := Prod.mk.inj (Except.ok.inj h)
    have l2 := takeP_len h1
    simp [noJs, jtext] at l2 ⊢
    omega
  | none =>
    rw [h1] at h; simp only at h
    cases h2 : takeP [116, 114, 117, 101] l with
    | some q =>
      rw [h2] at h; simp only at h
      obtain ⟨rfl, rfl⟩ := Prod.mk.inj (Except.ok.inj h)
      have l2 := takeP_len h2
      simp [boolJ, jtext] at l2 ⊢
      omega
    | none =>
      rw [h2] at h; simp only at h
      cases h3 : takeP [102, 97, 108, 115, 101] l with
      | some q =>
        rw [h3] at h; simp only at h
        obtain ⟨rfl, rfl⟩ := Prod.mk.inj (Except.ok.inj h)
        have l2 := takeP_len h3
        simp [boolJ, jtext] at l2 ⊢
        omega
      | none =>
        rw [h3] at h; simp only at h
        cases h4 : digitL l with
        | error e => rw [h4] at h; cases h
        | ok p =>
          obtain ⟨n, q⟩ := p
          rw [h4] at h; simp only at h
          obtain ⟨rfl, rfl⟩ := Prod.mk.inj (Except.ok.inj h)
          obtain ⟨a1, a2, _⟩ := digitL_more h4
          have := itoa_le a1
          simp only [numJ, jtext]
          simp
          omega
theorem value_lenV : ∀ d, LenV (valueL d)
  | 0 => by
    intro l v r h
    cases l with
    | nil => rw [valueL_nil] at h; cases h
    | cons c l =>
      rw [valueL.eq_def] at h
      simp only at h
      split at h
      · cases h1 : wordL l with
        | error e => rw [h1] at h; cases h
        | ok p =>
          obtain ⟨k, q⟩ := p
          rw [h1] at h; simp only at h
          obtain ⟨rfl, rfl⟩ := Prod.mk.inj (Except.ok.inj h)
          have l1 := wordL_len h1
          have l2 := (quote_len k).2
          simp only [textJ, jtext, bs_list]
          simp
          omega
      · split at h
        · cases h
        · exact plain_lenV _ _ _ h
  | d + 1 => by
    intro l v r h
    cases l with
    | nil => rw [valueL_nil] at h; cases h
    | cons c l =>
      rw [valueL.eq_def] at h
      simp only at h
      split at h
      · cases h1 : wordL l with
        | error e => rw [h1] at h; cases h
        | ok p =>
          obtain ⟨k, q⟩ := p
          rw [h1] at h; simp only at h
          obtain ⟨rfl, rfl⟩ := Prod.mk.inj (Except.ok.inj h)
          have l1 := wordL_len h1
          have l2 := (quote_len k).2
          simp only [textJ, jtext, bs_list]
          simp
          omega
      · split at h
        · have := items_lenV (value_lenV d) _ h
          simp
          omega
        · exact plain_lenV _ _ _ h
/-- How long the text of what is parsed is. -/
theorem parse_len {s : List UInt8} {v : Js} (h : parseL s = .ok v) : (jtext v).length ≤ 30 * s.length := by
  unfold parseL at h
  cases h1 : valueL 64 (skipL s) with
  | error e => rw [h1] at h; cases h
  | ok p =>
    obtain ⟨x, r⟩ := p
    rw [h1] at h; simp only at h
    split at h
    · cases h
      have := value_lenV 64 _ _ _ h1
      have := skip_len s
      omega
    · cases h
theorem sep_mem : ∀ (l : List (List UInt8)) (x : List UInt8), x ∈ l → x.length ≤ (sepL l).length
  | [y], x, h => by rw [List.mem_singleton.1 h]; exact Nat.le_refl _
  | y :: z :: l, x, h => by
    rw [sep_cons]
    simp only [List.length_append, List.length_cons]
    rcases List.mem_cons.1 h with rfl | h
    · omega
    · have := sep_mem (z :: l) x h
      omega
  | [], x, h => by cases h
theorem pair_mem : ∀ (ks : List ByteArray) (l : List (List UInt8)), ks.length = l.length → (∀ x ∈ l, ∃ z ∈ pairL ks l, x.length ≤ z.length) ∧ ∀ k ∈ ks, ∃ z ∈ pairL ks l, k.size ≤ z.length
  | [], [], _ => ⟨fun x h => (by cases h), fun k h => (by cases h)⟩
  | y :: ks, z :: l, h => by
    obtain ⟨h1, h2⟩ := pair_mem ks l (by simpa using h)
    refine ⟨fun x hx => ?_, fun k hk => ?_⟩
    · rcases List.mem_cons.1 hx with rfl | hx
      · exact ⟨_, by simp only [pairL]; exact List.mem_cons_self, by simp; omega⟩
      · obtain ⟨u, hu, hl⟩ := h1 x hx
        exact ⟨u, by simp only [pairL]; exact List.mem_cons_of_mem _ hu, hl⟩
    · rcases List.mem_cons.1 hk with rfl | hk
      · refine ⟨_, by simp only [pairL]; exact List.mem_cons_self, ?_⟩
        have := (quote_len k.data.toList).1
        have l4 : k.data.toList.length = k.size := Array.length_toList
        simp
        omega
      · obtain ⟨u, hu, hl⟩ := h2 k hk
        exact ⟨u, by simp only [pairL]; exact List.mem_cons_of_mem _ hu, hl⟩
  | [], x :: l, h => by simp at h
  | k :: ks, [], h => by simp at h
/-- What stands in a right value's text. -/
theorem right_parts {d : Nat} {v : Js} (h : ownJ d v = true) : v.s.size ≤ (jtext v).length ∧ v.l.length ≤ (jtext v).length ∧ v.keys.length ≤ (jtext v).length ∧ (∀ k ∈ v.keys, k.size ≤ (jtext v).length) ∧ ∀ x ∈ v.l, (jtext x).length < (jtext v).length := by
  obtain ⟨kind, yes, n, s, ks, l⟩ := v
  rw [own_mk] at h
  simp only [Js.s, Js.l, Js.keys]
  have em : ByteArray.empty.size = 0 := rfl
  have none : (l.length = 0 ∧ ks.length = 0) → s.size ≤ (jtext (.mk kind yes n s ks l)).length → s.size ≤ (jtext (.mk kind yes n s ks l)).length ∧ l.length ≤ (jtext (.mk kind yes n s ks l)).length ∧ ks.length ≤ (jtext (.mk kind yes n s ks l)).length ∧ (∀ k ∈ ks, k.size ≤ (jtext (.mk kind yes n s ks l)).length) ∧ ∀ x ∈ l, (jtext x).length < (jtext (.mk kind yes n s ks l)).length := fun ⟨h1, h2⟩ h3 => by
    have e1 := List.length_eq_zero_iff.1 h1
    have e2 := List.length_eq_zero_iff.1 h2
    subst e1 e2
    exact ⟨h3, Nat.zero_le _, Nat.zero_le _, fun k hk => (by cases hk), fun x hx => (by cases hx)⟩
  by_cases c0 : kind = 0
  · simp [c0] at h
    exact none ⟨by simp [h], by simp [h]⟩ (by simp [h])
  by_cases c1 : kind = 1
  · simp [c1] at h
    exact none ⟨by simp [h], by simp [h]⟩ (by simp [h])
  by_cases c2 : kind = 2
  · simp [c2] at h
    exact none ⟨by simp [h], by simp [h]⟩ (by simp [h])
  by_cases c3 : kind = 3
  · simp [c3] at h
    refine none ⟨by simp [h], by simp [h]⟩ ?_
    have l4 : s.data.toList.length = s.size := Array.length_toList
    have := (quote_len s.data.toList).1
    simp [jtext, c3]
    omega
  have hne : ∀ x ∈ l.map jtext, x ≠ [] := fun x hx => by
    obtain ⟨y, _, rfl⟩ := List.mem_map.1 hx
    exact jtext_ne y
  by_cases c4 : kind = 4
  · simp [c4] at h
    have e1 : ks = [] := by simp [h]
    have e2 : s = ByteArray.empty := by simp [h]
    subst e1 e2
    have l1 := sep_len (l.map jtext) hne
    rw [List.length_map] at l1
    have ht : (jtext (.mk kind yes n ByteArray.empty [] l)).length = (sepL (l.map jtext)).length + 2 := by simp [jtext, c4, jtexts_map]
    rw [ht]
    refine ⟨Nat.zero_le _, by omega, Nat.zero_le _, fun k hk => (by cases hk), fun x hx => ?_⟩
    have := sep_mem (l.map jtext) (jtext x) (List.mem_map_of_mem hx)
    omega
  by_cases c5 : kind = 5
  · simp [c5] at h
    have e1 : ks.length = l.length := by simp [h]
    have e2 : s = ByteArray.empty := by simp [h]
    subst e2
    have hp := pair_len ks (l.map jtext) (by simpa using e1)
    have l1 := sep_len (pairL ks (l.map jtext)) (pair_ne _ _)
    rw [hp, List.length_map] at l1
    have ht : (jtext (.mk kind yes n ByteArray.empty ks l)).length = (sepL (pairL ks (l.map jtext))).length + 2 := by simp [jtext, c5, jtexts_map]
    rw [ht]
    obtain ⟨p1, p2⟩ := pair_mem ks (l.map jtext) (by simpa using e1)
    refine ⟨by simp, by omega, by omega, fun k hk => ?_, fun x hx => ?_⟩
    · obtain ⟨z, hz, hl⟩ := p2 k hk
      have := sep_mem _ z hz
      omega
    · obtain ⟨z, hz, hl⟩ := p1 (jtext x) (List.mem_map_of_mem hx)
      have := sep_mem _ z hz
      omega
  · simp [c0, c1, c2, c3, c4, c5] at h
end Go.Proofs.YtamclieppbnpiabGreatDoor
