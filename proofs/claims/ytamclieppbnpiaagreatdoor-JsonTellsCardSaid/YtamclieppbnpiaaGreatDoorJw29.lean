/-
  Values' texts: by the document's program text.
-/
import Derived.Test.YtamclieppbnpiaaGreatDoorProg
import Derived.Test.YtamclieppbnpiaaGreatDoorReg
import Derived.WalkKit
import Derived.WalkSpells
import Derived.WalkLawsBesides
import Derived.Lib.Hide
import Derived.Lib.MinMax
import Derived.Deep.QuietTactic
import Derived.BigQuiet
import Derived.OwnWalk
import Derived.Deep.AppendLies
import Derived.KernelRfl
import Derived.Laws.RangeAny
import Derived.Test.YtamclieppbnpiaaGreatDoorJw27
import Derived.Test.YtamclieppbnpiaaGreatDoorJw19
import Derived.Test.YtamclieppbnpiaaGreatDoorJw28
set_option linter.unusedSimpArgs false
set_option linter.unusedVariables false
namespace Go.Proofs.YtamclieppbnpiaaGreatDoor
open Go Go.RowKit Go.Sort Go.Shelf
open Fz (HoldsS)

theorem sep_snoc : ∀ (a : List (List UInt8)) (x : List UInt8), a ≠ [] → sepL (a ++ [x]) = sepL a ++ 44 :: x
  | [y], x, _ => by simp [sepL]
  | y :: z :: a, x, _ => by
    have := sep_snoc (z :: a) x (by simp)
    rw [List.cons_append, List.cons_append, sep_cons, sep_cons, ← List.cons_append, this]
    simp
  | [], x, h => absurd rfl h
theorem sep_take {P : List (List UInt8)} {k : Nat} {p : List UInt8} (h : P[k]? = some p) : sepL (P.take (k + 1)) = if k = 0 then p else sepL (P.take k) ++ 44 :: p := by
  rw [List.take_add_one, h]
  by_cases h0 : k = 0
  · subst h0; simp [sepL]
  · rw [if_neg h0]
    refine sep_snoc _ _ (fun e => ?_)
    have hk := (List.getElem?_eq_some_iff.1 h).1
    have := congrArg List.length e
    rw [List.length_take] at this
    simp only [List.length_nil] at this
    omega
theorem sep_take_len (P : List (List UInt8)) (k : Nat) : (sepL (P.take k)).length ≤ (sepL P).length := by
  by_cases hk : k < P.length
  · obtain ⟨a, b, h1, h2⟩ : ∃ a b, P = a ++ b ∧ P.take k = a := ⟨P.take k, P.drop k, (List.take_append_drop k P).symm, rfl⟩
    rw [h2, h1]
    clear h1 h2 hk
    induction a with
    | nil => simp [sepL]
    | cons x a ih =>
      cases a with
      | nil =>
        cases b with
        | nil => simp
        | cons y b => simp [sepL]
      | cons y a =>
        rw [List.cons_append, List.cons_append, sep_cons, sep_cons]
        rw [List.cons_append] at ih
        simp only [List.length_append, List.length_cons] at ih ⊢
        omega
  · rw [List.take_of_length_le (by omega)]
    exact Nat.le_refl _
/-- The texts of a value's items. -/
def partsL (v : Js) : List (List UInt8) := if v.kind = 5 then pairL v.keys (v.l.map jtext) else v.l.map jtext
/-- What the document's 'text' says of a value. -/
def TextRAt (x : Js) : Prop := ∀ (d : Nat) (cs : List Value) (W : World), rightJ d x = true → fitJ x → (jtext x).length ≤ 1000000 → JC W x cs → Calls Tryz.prog 33 #[.agg cs.toArray] W fun e w' => e = .returned (.string (bs (jtext x))) ∧ Below W.heap.size W w'
theorem text_form (v : Js) : jtext v = if v.kind = 1 then (if v.yes then [116, 114, 117, 101] else [102, 97, 108, 115, 101]) else if v.kind = 2 then Lib.itoa v.n else if v.kind = 3 then quoteL v.s.data.toList else if v.kind = 4 then 91 :: (sepL (partsL v) ++ [93]) else if v.kind = 5 then 123 :: (sepL (partsL v) ++ [125]) else [110, 117, 108, 108] := by
  obtain ⟨k, y, n, s, ks, l⟩ := v
  unfold partsL
  by_cases c1 : k = 1
  · cases y <;> simp [jtext, Js.kind, Js.yes, c1]
  by_cases c2 : k = 2
  · simp [jtext, Js.kind, Js.n, c2]
  by_cases c3 : k = 3
  · simp [jtext, Js.kind, Js.s, c3]
  by_cases c4 : k = 4
  · simp [jtext, Js.kind, Js.l, c4, jtexts_map]
  by_cases c5 : k = 5
  · simp [jtext, Js.kind, Js.l, Js.keys, c5, jtexts_map]
  simp [jtext, Js.kind, c1, c2, c3, c4, c5]
set_option maxRecDepth 100000 in
set_option maxHeartbeats 16000000 in
theorem rtext_step (v : Js) (IH : ∀ x ∈ v.l, TextRAt x) : TextRAt v := by
  intro d cs w hr hf hlen hJ
  have ho := (right_items hr).1
  obtain ⟨p1, p2, p3, p4, p5⟩ := right_parts ho
  have hn := (fitJ_iff.1 hf).1
  have hf2 := (fitJ_iff.1 hf).2
  have h2 := (right_items hr).2
  have IH2 : Hid (∀ x ∈ v.l, ∀ (cs : List Value) (W : World), JC W x cs → Calls Tryz.prog 33 #[.agg cs.toArray] W fun e w' => e = .returned (.string (bs (jtext x))) ∧ Below W.heap.size W w') := Lib.hid (fun x hx cs W hc => by
    obtain ⟨e, _, he⟩ := h2 x hx
    exact IH x hx e cs W he (hf2 x hx) (by have := p5 x hx; omega) hc)
  have hT := text_form v
  have hkk : v.kind = 5 → v.keys.length = v.l.length ∧ keysOk v.keys = true := fun hk => by
    have := own_k5 (d := d) hk
    rw [ho] at this
    have := this.symm
    simp only [Bool.and_eq_true, decide_eq_true_eq] at this
    exact ⟨this.1.1.2, this.1.2⟩
  have hkind := own_kind ho
  have hsl : (sepL (partsL v)).length ≤ 1000000 := by
    rcases hkind with h | h | h | h | h | h
    · have : v.l = [] := by have := own_k0 (d := d) h; rw [ho] at this; unfold plJ at this; have := this.symm; simp only [Bool.and_eq_true, decide_eq_true_eq] at this; exact List.length_eq_zero_iff.1 this.1.1
      unfold partsL; rw [if_neg (by omega), this]; simp [sepL]
    · have : v.l = [] := by have := own_k1 (d := d) h; rw [ho] at this; unfold plJ at this; have := this.symm; simp only [Bool.and_eq_true, decide_eq_true_eq] at this; exact List.length_eq_zero_iff.1 this.1.1.1
      unfold partsL; rw [if_neg (by omega), this]; simp [sepL]
    · have : v.l = [] := by have := own_k2 (d := d) h; rw [ho] at this; unfold plJ at this; have := this.symm; simp only [Bool.and_eq_true, decide_eq_true_eq] at this; exact List.length_eq_zero_iff.1 this.1.1.1
      unfold partsL; rw [if_neg (by omega), this]; simp [sepL]
    · have : v.l = [] := by have := own_k3 (d := d) h; rw [ho] at this; unfold plJ at this; have := this.symm; simp only [Bool.and_eq_true, decide_eq_true_eq] at this; exact List.length_eq_zero_iff.1 this.1.1.1.1
      unfold partsL; rw [if_neg (by omega), this]; simp [sepL]
    · rw [hT] at hlen; simp [h] at hlen; omega
    · rw [hT] at hlen; simp [h] at hlen; omega
  have hpl : (partsL v).length = v.l.length := by
    unfold partsL
    split
    · rename_i h; rw [pair_len _ _ (by simpa using (hkk h).1), List.length_map]
    · rw [List.length_map]
  have hv3 : v.kind = 3 → validB v.s = true := fun h => by
    have := own_k3 (d := d) h
    rw [ho] at this
    have := this.symm
    simp only [Bool.and_eq_true] at this
    exact this.2
  obtain ⟨A1, c1, B1, d1, rfl, hS1, hc1, hd1, hL1⟩ := JC_iff.1 hJ
  have hl1 : v.l.length ≤ 1000000 := by omega
  have HT := Lib.hid hT
  have HKK := Lib.hid hkk
  have HPL := Lib.hid hpl
  have HSL := Lib.hid hsl
  have HKZ := Lib.hid p4
  have HXZ := Lib.hid p5
  have HLN := Lib.hid hlen
  have HKD := Lib.hid hkind
  have HV3 := Lib.hid hv3
  have HS := Lib.hid hS1
  have HL := Lib.hid hL1
  have HB0 := Lib.hid (below_new w (.cells #[.int .i64 v.kind, .bool v.yes, .int .i64 v.n, .string v.s, .slice A1 v.keys.length c1, .slice B1 v.l.length d1] tJ))
  have a0 := box_one w #[.int .i64 v.kind, .bool v.yes, .int .i64 v.n, .string v.s, .slice A1 v.keys.length c1, .slice B1 v.l.length d1] 0 _ rfl
  have a1 := box_one w #[.int .i64 v.kind, .bool v.yes, .int .i64 v.n, .string v.s, .slice A1 v.keys.length c1, .slice B1 v.l.length d1] 1 _ rfl
  have a2 := box_one w #[.int .i64 v.kind, .bool v.yes, .int .i64 v.n, .string v.s, .slice A1 v.keys.length c1, .slice B1 v.l.length d1] 2 _ rfl
  have a3 := box_one w #[.int .i64 v.kind, .bool v.yes, .int .i64 v.n, .string v.s, .slice A1 v.keys.length c1, .slice B1 v.l.length d1] 3 _ rfl
  have a4 := box_one w #[.int .i64 v.kind, .bool v.yes, .int .i64 v.n, .string v.s, .slice A1 v.keys.length c1, .slice B1 v.l.length d1] 4 _ rfl
  have a5 := box_one w #[.int .i64 v.kind, .bool v.yes, .int .i64 v.n, .string v.s, .slice A1 v.keys.length c1, .slice B1 v.l.length d1] 5 _ rfl
  clear hT hkk hpl hsl p1 p2 p3 p4 p5 hlen hkind hv3 hS1 hL1 hJ hr hf hf2 h2 ho IH
  go_enter Tryz.func33, Tryz.ntmps33
  go_wp2_with fail
  generalize w.alloc (.cells #[.int .i64 v.kind, .bool v.yes, .int .i64 v.n, .string v.s, .slice A1 v.keys.length c1, .slice B1 v.l.length d1] tJ) = W0 at *
  go_loopw [3, 4] (fun o i wr => ∃ (k : Nat), i = .int .i64 k ∧ k ≤ v.l.length ∧ Hid (o = .string (bs (sepL ((partsL v).take k)))) ∧ Hid (Below W0.heap.size W0 wr)) (fun _ i _ => v.l.length - (intOf i).toNat)
  case atStart => exact ⟨0, rfl, Nat.zero_le _, Lib.hid rfl, Lib.hid (Below.refl _ _)⟩
  case round =>
    obtain ⟨k, rfl, hk, HP, HK⟩ := hrel
    have hp := HP.out
    subst hp
    have i0 : (0 : Int) ≤ (k : Int) := by omega
    have b0 := cells_keep HK.out a0
    have b1 := cells_keep HK.out a1
    have b2 := cells_keep HK.out a2
    have b3 := cells_keep HK.out a3
    have b4 := cells_keep HK.out a4
    have b5 := cells_keep HK.out a5
    have hlow := Lib.hid (HB0.out.trans (HK.out.mono HB0.out.size))
    clear a0 a1 a2 a3 a4 a5
    by_cases h1 : k < v.l.length
    · have i1 : (k : Int) < (v.l.length : Int) := by omega
      have gx := List.getElem?_eq_getElem (l := v.l) (i := k) h1
      have HC := Lib.hid (IH2.out _ (List.getElem_mem h1))
      have hzx := HXZ.out _ (List.getElem_mem h1)
      have hln := HLN.out
      have hz1 : (bs (sepL ((partsL v).take k))).size ≤ 1000000 := by rw [bs_size]; exact Nat.le_trans (sep_take_len _ _) HSL.out
      have hptx : ∀ p, (partsL v)[k]? = some p → sepL ((partsL v).take (k + 1)) = if k = 0 then p else sepL ((partsL v).take k) ++ 44 :: p := fun p h => sep_take h
      by_cases k5 : v.kind = 5
      · have q5 : (v.kind == 5) = true := by simpa using k5
        obtain ⟨hkl, hko⟩ := HKK.out k5
        have gy := List.getElem?_eq_getElem (l := v.keys) (i := k) (by omega)
        have hzy := HKZ.out _ (List.getElem_mem (show k < v.keys.length by omega))
        have i4 : (k : Int) < (v.keys.length : Int) := by omega
        generalize v.keys[k]'(by omega) = y at *
        generalize v.l[k]'h1 = x at *
        have hpp : (partsL v)[k]? = some (quoteL y.data.toList ++ 58 :: jtext x) := by
          unfold partsL
          rw [if_pos k5]
          exact pair_get _ _ k y _ gy (by rw [List.getElem?_map, gx]; rfl)
        have hst := hptx _ hpp
        obtain ⟨b7, o7, rfl, e6⟩ := (HS.out.below hlow.out) k y gy
        obtain ⟨b8, o8, cs, rfl, hcs1, hJ1⟩ := (HL.out.below hlow.out) k x gx
        have HJ1 := Lib.hid hJ1
        obtain ⟨A2, c2, B2, d2, rfl, _, _, _, _, e0, e1, e2, e3, e4, e5⟩ := six (off := o8 + k * 6) hJ1 hcs1
        have hyl : y.data.toList.length = y.size := Array.length_toList
        have hQt := fun W => quote_any y.data.toList W (by omega)
        have hql := (quote_len y.data.toList).2
        rw [bs_of] at hQt
        have HQt := Lib.hid hQt
        have hz2 : (bs (quoteL y.data.toList)).size ≤ 10000000 := by rw [bs_size]; omega
        have hz3 : (bs (jtext x)).size ≤ 1000000 := by rw [bs_size]; omega
        have HST := Lib.hid hst
        have HKL := Lib.hid hkl
        generalize quoteL y.data.toList = qy at *
        clear hcs1 gx gy hJ1 hst hptx hpp hQt hql hyl hzx hzy hln k5 hkl hko
        by_cases h0 : k = 0
        · have HEq : Hid (bs (sepL ((partsL v).take k)) ++ bs qy ++ ⟨#[58]⟩ ++ bs (jtext x) = bs (sepL ((partsL v).take (k + 1)))) := Lib.hid (by
            rw [HST.out, if_pos h0]
            subst h0
            simp only [List.take_zero]
            show bs (sepL []) ++ bs qy ++ bs [58] ++ bs (jtext x) = _
            rw [bs_app, bs_app, bs_app]
            simp [sepL])
          have q0 : ¬ (0 : Int) < (k : Int) := by omega
          clear h0
          go_wp2_with fail
          refine (HQt.out _).mono ?_
          rintro e w2 ⟨rfl, hb2⟩
          have HB2 := Lib.hid hb2
          have g0 := cells_keep hb2 e0
          have g1 := cells_keep hb2 e1
          have g2 := cells_keep hb2 e2
          have g3 := cells_keep hb2 e3
          have g4 := cells_keep hb2 e4
          have g5 := cells_keep hb2 e5
          have f5 := cells_keep hb2 b5
          clear hb2 e0 e1 e2 e3 e4 e5 e6
          go_wp2_with fail
          refine (HC.out _ _ (HJ1.out.keep HB2.out)).mono ?_
          rintro e w3 ⟨rfl, hb3⟩
          have HK3 := Lib.hid (HK.out.trans ((HB2.out.trans (hb3.mono HB2.out.size)).mono HK.out.size))
          clear hb3 g0 g1 g2 g3 g4 g5
          go_wp2_with fail
          go_roundw
          case rel => exact ⟨k + 1, by go_num, by omega, Lib.hid (by rw [← HEq.out]), HK3⟩
          case measure => simp [intOf]; omega
        · have HEq : Hid (bs (sepL ((partsL v).take k)) ++ ⟨#[44]⟩ ++ bs qy ++ ⟨#[58]⟩ ++ bs (jtext x) = bs (sepL ((partsL v).take (k + 1)))) := Lib.hid (by
            rw [HST.out, if_neg h0]
            show bs (sepL ((partsL v).take k)) ++ bs [44] ++ bs qy ++ bs [58] ++ bs (jtext x) = _
            rw [bs_app, bs_app, bs_app, bs_app]
            simp [sepL])
          have q0 : (0 : Int) < (k : Int) := by omega
          clear h0
          go_wp2_with fail
          refine (HQt.out _).mono ?_
          rintro e w2 ⟨rfl, hb2⟩
          have HB2 := Lib.hid hb2
          have g0 := cells_keep hb2 e0
          have g1 := cells_keep hb2 e1
          have g2 := cells_keep hb2 e2
          have g3 := cells_keep hb2 e3
          have g4 := cells_keep hb2 e4
          have g5 := cells_keep hb2 e5
          have f5 := cells_keep hb2 b5
          clear hb2 e0 e1 e2 e3 e4 e5 e6
          go_wp2_with fail
          refine (HC.out _ _ (HJ1.out.keep HB2.out)).mono ?_
          rintro e w3 ⟨rfl, hb3⟩
          have HK3 := Lib.hid (HK.out.trans ((HB2.out.trans (hb3.mono HB2.out.size)).mono HK.out.size))
          clear hb3 g0 g1 g2 g3 g4 g5
          go_wp2_with fail
          go_roundw
          case rel => exact ⟨k + 1, by go_num, by omega, Lib.hid (by rw [← HEq.out]), HK3⟩
          case measure => simp [intOf]; omega
      · have q5 : (v.kind == 5) = false := by simpa using k5
        generalize v.l[k]'h1 = x at *
        have hpp : (partsL v)[k]? = some (jtext x) := by
          unfold partsL
          rw [if_neg k5, List.getElem?_map, gx]
          rfl
        have hst := hptx _ hpp
        obtain ⟨b8, o8, cs, rfl, hcs1, hJ1⟩ := (HL.out.below hlow.out) k x gx
        have HJ1 := Lib.hid hJ1
        obtain ⟨A2, c2, B2, d2, rfl, _, _, _, _, e0, e1, e2, e3, e4, e5⟩ := six (off := o8 + k * 6) hJ1 hcs1
        have hz3 : (bs (jtext x)).size ≤ 1000000 := by rw [bs_size]; omega
        have HST := Lib.hid hst
        clear hcs1 gx hJ1 hst hptx hpp hzx hln k5
        by_cases h0 : k = 0
        · have HEq : Hid (bs (sepL ((partsL v).take k)) ++ bs (jtext x) = bs (sepL ((partsL v).take (k + 1)))) := Lib.hid (by
            rw [HST.out, if_pos h0]
            subst h0
            simp only [List.take_zero]
            show bs (sepL []) ++ bs (jtext x) = _
            rw [bs_app]
            simp [sepL])
          have q0 : ¬ (0 : Int) < (k : Int) := by omega
          clear h0
          go_wp2_with fail
          refine (HC.out _ _ HJ1.out).mono ?_
          rintro e w3 ⟨rfl, hb3⟩
          have HK3 := Lib.hid (HK.out.trans (hb3.mono HK.out.size))
          clear hb3 e0 e1 e2 e3 e4 e5
          go_wp2_with fail
          go_roundw
          case rel => exact ⟨k + 1, by go_num, by omega, Lib.hid (by rw [← HEq.out]), HK3⟩
          case measure => simp [intOf]; omega
        · have HEq : Hid (bs (sepL ((partsL v).take k)) ++ ⟨#[44]⟩ ++ bs (jtext x) = bs (sepL ((partsL v).take (k + 1)))) := Lib.hid (by
            rw [HST.out, if_neg h0]
            show bs (sepL ((partsL v).take k)) ++ bs [44] ++ bs (jtext x) = _
            rw [bs_app, bs_app]
            simp [sepL])
          have q0 : (0 : Int) < (k : Int) := by omega
          clear h0
          go_wp2_with fail
          refine (HC.out _ _ HJ1.out).mono ?_
          rintro e w3 ⟨rfl, hb3⟩
          have HK3 := Lib.hid (HK.out.trans (hb3.mono HK.out.size))
          clear hb3 e0 e1 e2 e3 e4 e5
          go_wp2_with fail
          go_roundw
          case rel => exact ⟨k + 1, by go_num, by omega, Lib.hid (by rw [← HEq.out]), HK3⟩
          case measure => simp [intOf]; omega
    · obtain rfl : k = v.l.length := by omega
      have hf := HPL.out
      have e : (partsL v).take v.l.length = partsL v := List.take_of_length_le (by omega)
      rw [e]
      have hsz : (bs (sepL (partsL v))).size ≤ 1000000 := by rw [bs_size]; exact HSL.out
      have i1 : ¬ (v.l.length : Int) < (v.l.length : Int) := by omega
      clear hf e HP IH2
      rcases HKD.out with h | h | h | h | h | h
      · have q : (v.kind == 1) = false ∧ (v.kind == 2) = false ∧ (v.kind == 3) = false ∧ (v.kind == 4) = false ∧ (v.kind == 5) = false := by rw [h]; decide
        obtain ⟨q1, q2, q3, q4, q5⟩ := q
        have HE : Hid (jtext v = [110, 117, 108, 108]) := Lib.hid (by rw [HT.out]; simp [h])
        clear h
        go_wp2_with fail
        go_ret
        exact ⟨by rw [HE.out]; rfl, hlow.out⟩
      · have q1 : (v.kind == 1) = true := by rw [h]; decide
        have hE : jtext v = if v.yes then [116, 114, 117, 101] else [102, 97, 108, 115, 101] := by rw [HT.out]; simp [h]
        cases hy : v.yes with
        | true =>
          rw [hy] at hE b1
          have HE := Lib.hid hE
          clear h hE
          go_wp2_with fail
          go_ret
          exact ⟨by rw [HE.out]; rfl, hlow.out⟩
        | false =>
          rw [hy] at hE b1
          have HE := Lib.hid hE
          clear h hE
          go_wp2_with fail
          go_ret
          exact ⟨by rw [HE.out]; rfl, hlow.out⟩
      · have q : (v.kind == 1) = false ∧ (v.kind == 2) = true := by rw [h]; decide
        obtain ⟨q1, q2⟩ := q
        have HE : Hid (jtext v = Lib.itoa v.n) := Lib.hid (by rw [HT.out]; simp [h])
        have HC := Lib.hid (fun W => number_any v.n W hn)
        rw [← HE.out] at HC
        clear h
        go_wp2_with fail
        refine (HC.out _).mono ?_
        rintro e w1 ⟨rfl, hb1⟩
        have HB1 := Lib.hid (hlow.out.trans (hb1.mono hlow.out.size))
        clear hb1
        go_wp2_with fail
        go_ret
        exact ⟨rfl, HB1.out⟩
      · have q : (v.kind == 1) = false ∧ (v.kind == 2) = false ∧ (v.kind == 3) = true := by rw [h]; decide
        obtain ⟨q1, q2, q3⟩ := q
        have HE : Hid (jtext v = quoteL v.s.data.toList) := Lib.hid (by rw [HT.out]; simp [h])
        have hsl : v.s.data.toList.length ≤ 1000000 := by
          have := (quote_len v.s.data.toList).1
          have h9 := HLN.out
          rw [HE.out] at h9
          omega
        have hQ := fun W => quote_any v.s.data.toList W (by omega)
        rw [bs_of, ← HE.out] at hQ
        have HC := Lib.hid hQ
        clear h hQ hsl
        go_wp2_with fail
        refine (HC.out _).mono ?_
        rintro e w1 ⟨rfl, hb1⟩
        have HB1 := Lib.hid (hlow.out.trans (hb1.mono hlow.out.size))
        clear hb1
        go_wp2_with fail
        go_ret
        exact ⟨rfl, HB1.out⟩
      · have q : (v.kind == 1) = false ∧ (v.kind == 2) = false ∧ (v.kind == 3) = false ∧ (v.kind == 4) = true := by rw [h]; decide
        obtain ⟨q1, q2, q3, q4⟩ := q
        have HE : Hid ((⟨#[91]⟩ : ByteArray) ++ bs (sepL (partsL v)) ++ ⟨#[93]⟩ = bs (jtext v)) := Lib.hid (by
          rw [HT.out]
          simp only [h]
          show bs [91] ++ bs _ ++ bs [93] = _
          rw [bs_app, bs_app]; rfl)
        clear h
        generalize bs (sepL (partsL v)) = t at *
        go_wp2_with fail
        go_ret
        rw [← HE.out]
        exact ⟨rfl, hlow.out⟩
      · have q : (v.kind == 1) = false ∧ (v.kind == 2) = false ∧ (v.kind == 3) = false ∧ (v.kind == 4) = false ∧ (v.kind == 5) = true := by rw [h]; decide
        obtain ⟨q1, q2, q3, q4, q5⟩ := q
        have HE : Hid ((⟨#[123]⟩ : ByteArray) ++ bs (sepL (partsL v)) ++ ⟨#[125]⟩ = bs (jtext v)) := Lib.hid (by
          rw [HT.out]
          simp only [h]
          show bs [123] ++ bs _ ++ bs [125] = _
          rw [bs_app, bs_app]; rfl)
        clear h
        generalize bs (sepL (partsL v)) = t at *
        go_wp2_with fail
        go_ret
        rw [← HE.out]
        exact ⟨rfl, hlow.out⟩
theorem rtext_any (v : Js) : TextRAt v := by
  induction v using Js.ind with
  | _ v ih => exact rtext_step v ih
set_option maxRecDepth 100000 in
set_option maxHeartbeats 4000000 in
/-- The document's 'Print'. -/
theorem RPrint_any (M : Nat) (hM : M ≤ 1000000) (v : Js) (hok : okJ M v) (hlen : rightJ 64 v = true → (jtext v).length ≤ 1000000) (cs : List Value) (w : World) (hJ : JC w v cs) :
    Calls Tryz.prog 16 #[.agg cs.toArray] w fun e w' => e = .returned (.tuple #[.string (bs (if rightJ 64 v then jtext v else [])), .int .i64 (if rightJ 64 v then 0 else 150)]) ∧ Below w.heap.size w w' := by
  have HB := Lib.hid (fun o => below_new w o)
  have HJ := Lib.hid hJ
  have HC := Lib.hid (fun W h1 => RRight_any M hM v hok cs W h1)
  have HT := Lib.hid (fun (h : rightJ 64 v = true) W h1 => rtext_any v 64 cs W h (okJ.fit v hok) (hlen h) h1)
  obtain ⟨A1, c1, B1, d1, rfl, hS1, hc1, hd1, hL1⟩ := JC_iff.1 hJ
  clear hJ hS1 hL1 hok hlen
  cases hr : rightJ 64 v with
  | false =>
    rw [hr] at HC
    clear HT
    go_enter Tryz.func16, Tryz.ntmps16
    go_wp2_with fail
    refine (HC.out _ (HJ.out.keep (HB.out _))).mono ?_
    rintro e w1 ⟨rfl, hb1⟩
    have HB1 := Lib.hid ((HB.out _).trans (hb1.mono (HB.out _).size))
    clear hb1
    go_wp2_with fail
    go_ret2
    exact ⟨rfl, HB1.out⟩
  | true =>
    rw [hr] at HC
    have HT2 := Lib.hid (HT.out hr)
    clear HT
    go_enter Tryz.func16, Tryz.ntmps16
    go_wp2_with fail
    refine (HC.out _ (HJ.out.keep (HB.out _))).mono ?_
    rintro e w1 ⟨rfl, hb1⟩
    have HB1 := Lib.hid ((HB.out _).trans (hb1.mono (HB.out _).size))
    have hJ1 := Lib.hid (HJ.out.keep HB1.out)
    have y0 := cells_keep hb1 (box_one w _ 0 _ rfl)
    have y1 := cells_keep hb1 (box_one w _ 1 _ rfl)
    have y2 := cells_keep hb1 (box_one w _ 2 _ rfl)
    have y3 := cells_keep hb1 (box_one w _ 3 _ rfl)
    have y4 := cells_keep hb1 (box_one w _ 4 _ rfl)
    have y5 := cells_keep hb1 (box_one w _ 5 _ rfl)
    clear hb1
    go_wp2_with fail
    refine (HT2.out _ hJ1.out).mono ?_
    rintro e w2 ⟨rfl, hb2⟩
    have HB2 := Lib.hid (HB1.out.trans (hb2.mono HB1.out.size))
    clear hb2
    go_wp2_with fail
    go_ret2
    exact ⟨rfl, HB2.out⟩
end Go.Proofs.YtamclieppbnpiaaGreatDoor
