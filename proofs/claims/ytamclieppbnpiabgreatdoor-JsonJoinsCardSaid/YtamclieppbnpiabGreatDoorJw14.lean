/-
  Which values are right: by the program.
-/
import Derived.Test.YtamclieppbnpiabGreatDoorProg
import Derived.Test.YtamclieppbnpiabGreatDoorReg
import Derived.WalkKit
import Derived.WalkSpells
import Derived.WalkLawsBesides
import Derived.Lib.Hide
import Derived.Lib.MinMax
import Derived.Deep.QuietTactic
import Derived.BigQuiet
import Derived.OwnWalk
import Derived.Deep.AppendLies
import Derived.KernelRfl
import Derived.Laws.RangeAny
import Derived.Deep.RegionLaw
import Derived.Deep.RegionWith
import Derived.Deep.Cut
import Derived.Deep.CutRange
import Derived.Deep.CutBlock
import Derived.Test.YtamclieppbnpiabGreatDoorJw13
import Derived.Test.YtamclieppbnpiabGreatDoorRegG
set_option linter.unusedSimpArgs false
set_option linter.unusedVariables false
namespace Go.Proofs.YtamclieppbnpiabGreatDoor
open Go Go.RowKit Go.Sort Go.Shelf
open Fz (HoldsS)

def plJ (v : Js) : Bool := decide (v.l.length = 0) && decide (v.keys.length = 0)
def baJ (v : Js) : Bool := !v.yes && decide (v.n = 0) && decide (v.s = ByteArray.empty)
theorem own_k0 {d : Nat} {v : Js} (h : v.kind = 0) : ownJ d v = (plJ v && baJ v) := by unfold ownJ plJ baJ; rw [if_pos h]
theorem own_k1 {d : Nat} {v : Js} (h : v.kind = 1) : ownJ d v = (plJ v && decide (v.n = 0) && decide (v.s = ByteArray.empty)) := by unfold ownJ plJ; simp [h]
theorem own_k2 {d : Nat} {v : Js} (h : v.kind = 2) : ownJ d v = (plJ v && !v.yes && decide (v.s = ByteArray.empty)) := by unfold ownJ plJ; simp [h]
theorem own_k3 {d : Nat} {v : Js} (h : v.kind = 3) : ownJ d v = (plJ v && !v.yes && decide (v.n = 0) && validB v.s) := by unfold ownJ plJ; simp [h]
theorem own_k4 {d : Nat} {v : Js} (h : v.kind = 4) : ownJ d v = (baJ v && decide (v.keys.length = 0) && decide (0 < d)) := by unfold ownJ baJ; simp [h]
theorem own_k5 {d : Nat} {v : Js} (h : v.kind = 5) : ownJ d v = (baJ v && decide (v.keys.length = v.l.length) && keysOk v.keys && decide (0 < d)) := by unfold ownJ baJ; simp [h]
theorem own_k6 {d : Nat} {v : Js} (h0 : v.kind ≠ 0) (h1 : v.kind ≠ 1) (h2 : v.kind ≠ 2) (h3 : v.kind ≠ 3) (h4 : v.kind ≠ 4) (h5 : v.kind ≠ 5) : ownJ d v = false := by unfold ownJ; simp [h0, h1, h2, h3, h4, h5]
theorem right_split (d : Nat) (v : Js) : rightJ d v = (ownJ d v && v.l.all (rightJ (d - 1))) := by
  cases d with
  | zero =>
    show ownJ 0 v = _
    cases h : ownJ 0 v with
    | false => rfl
    | true => rw [own_zero h]; rfl
  | succ d => rfl
theorem keysGo_step (l : List ByteArray) (k : Nat) (x : ByteArray) (h : l[k]? = some x) : keysGo (l.take k) (l.drop k) = (validB x && (!inB x (l.take k) && keysGo (l.take (k + 1)) (l.drop (k + 1)))) := by
  obtain ⟨hk, rfl⟩ := List.getElem?_eq_some_iff.1 h
  rw [List.drop_eq_getElem_cons hk, keysGo, List.take_add_one, List.getElem?_eq_getElem hk]
  rfl

set_option maxRecDepth 100000 in
set_option maxHeartbeats 8000000 in
theorem areKeys_any (a : Addr) (l : List ByteArray) (A : Option Addr) (c : Nat) (w : World) (hl : l.length ≤ 1000000000) (hc : l.length ≤ c) (hz : ∀ k ∈ l, k.size ≤ 1000000000) (hS : HoldsS w A l) (hW : WJ a w) :
    Calls Tryz.prog 41 #[.slice A l.length c] w fun e w' => e = .returned (.bool (keysOk l)) ∧ Below w.heap.size w w' := by
  have HS := Lib.hid hS
  have HW := Lib.hid hW
  have HZ := Lib.hid hz
  clear hS hW hz
  go_enter Tryz.func41, Tryz.ntmps41
  go_wp2_with fail
  go_loopw [7] (fun i wr => ∃ (k : Nat), i = .int .i64 k ∧ k ≤ l.length ∧ Hid (keysOk l = keysGo (l.take k) (l.drop k)) ∧ Hid (Below w.heap.size w wr)) (fun i _ => l.length - (intOf i).toNat)
  case atStart => exact ⟨0, rfl, Nat.zero_le _, Lib.hid rfl, Lib.hid (Below.refl _ _)⟩
  case round =>
    obtain ⟨k, rfl, hk, HP, HK⟩ := hrel
    have i0 : (0 : Int) ≤ (k : Int) := by omega
    have i3 : (k : Int) ≤ (c : Int) := by omega
    by_cases h1 : k < l.length
    · have i1 : (k : Int) < (l.length : Int) := by omega
      have gx := List.getElem?_eq_getElem (l := l) (i := k) h1
      have hx := Lib.hid (HZ.out _ (List.getElem_mem h1))
      have hst := keysGo_step l k _ gx
      generalize l[k]'h1 = x at *
      obtain ⟨b, off, rfl, e0⟩ := (HS.out.below HK.out) k x gx
      have HQ := Lib.hid (HP.out.trans hst)
      clear hst HP gx
      cases hv : validB x with
      | false =>
        have HE : Hid (keysOk l = false) := Lib.hid (by rw [HQ.out, hv]; rfl)
        have HV := Lib.hid (Valid_lib x a wr hx.out (HW.out.keep HK.out))
        rw [hv] at HV
        clear HQ
        go_wp2_with fail
        refine HV.out.mono ?_
        rintro e w1 ⟨rfl, hb1⟩
        have HK1 := Lib.hid (HK.out.trans (hb1.mono HK.out.size))
        clear hb1
        go_wp2_with fail
        go_ret
        exact ⟨by rw [HE.out]; rfl, HK1.out⟩
      | true =>
        have HV := Lib.hid (Valid_lib x a wr hx.out (HW.out.keep HK.out))
        rw [hv] at HV
        have HI := Lib.hid (fun W h => Contains_lib l k (some ⟨b, off, none⟩) c x W (Nat.le_of_lt h1) h hl)
        rw [hv] at HQ
        cases hin : inB x (l.take k) with
        | true =>
          have HE : Hid (keysOk l = false) := Lib.hid (by rw [HQ.out, hin]; rfl)
          rw [hin] at HI
          clear HQ
          go_wp2_with fail
          refine HV.out.mono ?_
          rintro e w1 ⟨rfl, hb1⟩
          have HK1 := Lib.hid (HK.out.trans (hb1.mono HK.out.size))
          clear hb1
          go_wp2_with fail
          refine (HI.out _ (HS.out.below HK1.out)).mono ?_
          rintro e w2 ⟨rfl, rfl⟩
          go_wp2_with fail
          go_ret
          exact ⟨by rw [HE.out]; rfl, HK1.out⟩
        | false =>
          have HE : Hid (keysOk l = keysGo (l.take (k + 1)) (l.drop (k + 1))) := Lib.hid (by rw [HQ.out, hin]; rfl)
          rw [hin] at HI
          clear HQ
          go_wp2_with fail
          refine HV.out.mono ?_
          rintro e w1 ⟨rfl, hb1⟩
          have HK1 := Lib.hid (HK.out.trans (hb1.mono HK.out.size))
          clear hb1
          go_wp2_with fail
          refine (HI.out _ (HS.out.below HK1.out)).mono ?_
          rintro e w2 ⟨rfl, rfl⟩
          go_wp2_with fail
          go_roundw
          case rel => exact ⟨k + 1, by go_num, by omega, HE, HK1⟩
          case measure => simp [intOf]; omega
    · obtain rfl : k = l.length := by omega
      have HE : Hid (keysOk l = true) := Lib.hid (by rw [HP.out, List.drop_length]; rfl)
      go_wp2_with fail
      go_ret
      exact ⟨by rw [HE.out]; rfl, HK.out⟩

/-- What 'isRight' says of a value. -/
def RightAt (a : Addr) (d : Nat) (x : Js) : Prop := ∀ (cs : List Value) (W : World), JC W x cs → WJ a W → Calls Tryz.prog 24 #[.agg cs.toArray, .int .i64 (d : Int)] W fun e w' => e = .returned (.bool (rightJ d x)) ∧ Below W.heap.size W w'
set_option maxRecDepth 100000 in
set_option maxHeartbeats 8000000 in
theorem right1_any (a : Addr) (d : Nat) (hd : d ≤ 1000) (x : Js) (H : RightAt a d x) (mb : Nat) (cs : List Value) (w : World) (hJ : JC w x cs) (hW : WJ a w) (hm : w.cell? ⟨mb, 0, none⟩ = some (.int .i64 ((d + 1 : Nat) : Int))) :
    Calls Tryz.prog 43 #[.agg cs.toArray, .pointer (some ⟨mb, 0, none⟩)] w fun e w' => e = .returned (.bool (!rightJ d x)) ∧ Below w.heap.size w w' := by
  have HB := Lib.hid (fun o => below_new w o)
  have HJ := Lib.hid hJ
  have HW := Lib.hid hW
  have HH := Lib.hid H
  obtain ⟨A1, c1, B1, d1, rfl, hS1, hc1, hd1, hL1⟩ := JC_iff.1 hJ
  have lm := cell_lt hm
  simp only at lm
  have e1 : IntKind.i64.wrap (((d + 1 : Nat) : Int) - 1) = (d : Int) := by rw [IntWalk.i64_in] <;> omega
  have e2 : ((d + 1 : Nat) : Int) - 1 = (d : Int) := by omega
  clear hS1 hL1 hJ hW H
  go_enter Tryz.func43, Tryz.ntmps43
  go_wp2_with fail
  refine (HH.out _ _ (HJ.out.keep (HB.out _)) (HW.out.keep (HB.out _))).mono ?_
  rintro e w1 ⟨rfl, hb1⟩
  have HB1 := Lib.hid ((HB.out _).trans (hb1.mono (HB.out _).size))
  clear hb1
  go_wp2_with fail
  go_ret
  exact ⟨rfl, HB1.out⟩
set_option maxRecDepth 100000 in
set_option maxHeartbeats 8000000 in
theorem IndexF_any (a : Addr) (d : Nat) (hd : d ≤ 1000) (l : List Js) (H : ∀ x ∈ l, ∃ d', d = d' + 1 ∧ RightAt a d' x) (mb : Nat) (B : Option Addr) (c : Nat) (w : World) (hl : l.length ≤ 1000000000) (hB : HoldsJ w B l) (hW : WJ a w) (hm : w.cell? ⟨mb, 0, none⟩ = some (.int .i64 (d : Int))) :
    Calls Tryz.prog 63 #[.slice B l.length c, .func (.func 43) #[] #[.pointer (some ⟨mb, 0, none⟩)]] w fun e w' => ∃ r : Int, e = .returned (.int .i64 r) ∧ (l.all (rightJ (d - 1)) = decide (r < 0)) ∧ Below w.heap.size w w' := by
  have HB := Lib.hid hB
  have HW := Lib.hid hW
  have HM := Lib.hid hm
  have HH := Lib.hid H
  clear hB hW hm H
  go_enter Tryz.func63, Tryz.ntmps63
  go_wp2_with fail
  go_loopw [8] (fun i wr => ∃ (k : Nat), i = .int .i64 k ∧ k ≤ l.length ∧ Hid ((l.take k).all (rightJ (d - 1)) = true) ∧ Hid (Below w.heap.size w wr)) (fun i _ => l.length - (intOf i).toNat)
  case atStart => exact ⟨0, rfl, Nat.zero_le _, Lib.hid rfl, Lib.hid (Below.refl _ _)⟩
  case round =>
    obtain ⟨k, rfl, hk, HP, HK⟩ := hrel
    have i0 : (0 : Int) ≤ (k : Int) := by omega
    by_cases h1 : k < l.length
    · have i1 : (k : Int) < (l.length : Int) := by omega
      have gx := List.getElem?_eq_getElem (l := l) (i := k) h1
      obtain ⟨d', rfl, hR⟩ := HH.out _ (List.getElem_mem h1)
      have hst : (l.take (k + 1)).all (rightJ d') = ((l.take k).all (rightJ d') && rightJ d' (l[k]'h1)) := by rw [List.take_add_one, gx, List.all_append]; simp
      have hall : rightJ d' (l[k]'h1) = false → l.all (rightJ d') = false := fun h => by
        rw [List.all_eq_false]
        exact ⟨_, List.getElem_mem h1, by simp [h]⟩
      generalize l[k]'h1 = x at *
      obtain ⟨b1, o1, cs, rfl, hc1, hJ1⟩ := (HB.out.below HK.out) k x gx
      have HC := Lib.hid (right1_any a d' (by omega) x hR mb cs wr hJ1 (HW.out.keep HK.out) (cells_keep HK.out HM.out))
      obtain ⟨A1, c1, B1, d1, rfl, _, _, _, _, e0, e1, e2, e3, e4, e5⟩ := six (off := o1 + k * 6) hJ1 hc1
      simp only [Nat.add_sub_cancel] at HP
      have HST := Lib.hid hst
      have HA := Lib.hid hall
      clear hc1 gx hJ1 hR hst hall
      cases hr : rightJ d' x with
      | false =>
        rw [hr] at HC
        have HE := Lib.hid (HA.out hr)
        clear HA HST
        go_wp2_with fail
        refine HC.out.mono ?_
        rintro e w1 ⟨rfl, hb1⟩
        have HK1 := Lib.hid (HK.out.trans (hb1.mono HK.out.size))
        clear hb1
        go_wp2_with fail
        go_ret
        refine ⟨_, rfl, ?_, HK1.out⟩
        show l.all (rightJ d') = _
        rw [HE.out]
        simp
      | true =>
        rw [hr] at HC
        have HE : Hid ((l.take (k + 1)).all (rightJ d') = true) := Lib.hid (by rw [HST.out, HP.out, hr]; rfl)
        clear HA HST
        go_wp2_with fail
        refine HC.out.mono ?_
        rintro e w1 ⟨rfl, hb1⟩
        have HK1 := Lib.hid (HK.out.trans (hb1.mono HK.out.size))
        clear hb1
        go_wp2_with fail
        go_roundw
        case rel => exact ⟨k + 1, by go_num, by omega, HE, HK1⟩
        case measure => simp [intOf]; omega
    · obtain rfl : k = l.length := by omega
      have HE : Hid (l.all (rightJ (d - 1)) = true) := Lib.hid (by have := HP.out; rwa [List.take_length] at this)
      go_wp2_with fail
      go_ret
      exact ⟨_, rfl, by rw [HE.out]; rfl, HK.out⟩
set_option maxRecDepth 100000 in
theorem ContainsF_any (a : Addr) (d : Nat) (hd : d ≤ 1000) (l : List Js) (H : ∀ x ∈ l, ∃ d', d = d' + 1 ∧ RightAt a d' x) (mb : Nat) (B : Option Addr) (c : Nat) (w : World) (hl : l.length ≤ 1000000000) (hB : HoldsJ w B l) (hW : WJ a w) (hm : w.cell? ⟨mb, 0, none⟩ = some (.int .i64 (d : Int))) :
    Calls Tryz.prog 42 #[.slice B l.length c, .func (.func 43) #[] #[.pointer (some ⟨mb, 0, none⟩)]] w fun e w' => e = .returned (.bool (!l.all (rightJ (d - 1)))) ∧ Below w.heap.size w w' := by
  have HI := Lib.hid (IndexF_any a d hd l H mb B c w hl hB hW hm)
  clear H hB hW hm
  go_enter Tryz.func42, Tryz.ntmps42
  go_wp2_with fail
  refine HI.out.mono ?_
  rintro e w1 ⟨r, rfl, hr, hb1⟩
  have HR := Lib.hid hr
  clear hr
  go_wp2_with fail
  go_ret
  refine ⟨?_, hb1⟩
  rw [HR.out]
  congr 2
  by_cases h : r < 0
  · simp [h] <;> omega
  · simp [h] <;> omega
theorem empty_dec (s : ByteArray) : decide (s = ByteArray.empty) = s.toList.isEmpty := by
  by_cases h : s.size = 0
  · rw [Lz.empty_is h, decide_eq_true_eq]
    exact ByteArray.size_eq_zero_iff.1 h
  · rw [Lz.empty_not (by omega), decide_eq_false_iff_not]
    intro e; rw [e] at h; exact h rfl
theorem own_items {a : Addr} {d : Nat} {v : Js} (h : ownJ d v = true) (H : ∀ d', d = d' + 1 → ∀ x ∈ v.l, RightAt a d' x) : ∀ x ∈ v.l, ∃ d', d = d' + 1 ∧ RightAt a d' x := by
  cases d with
  | zero => intro x hx; rw [own_zero h] at hx; cases hx
  | succ d => exact fun x hx => ⟨d, rfl, H d rfl x hx⟩
set_option maxRecDepth 100000 in
set_option maxHeartbeats 16000000 in
theorem isRight_step (a : Addr) (M : Nat) (hM : M ≤ 1000000000) (v : Js) (hok : okJ M v) (d : Nat) (hd : d ≤ 1000) (IH : ∀ d', d = d' + 1 → ∀ x ∈ v.l, RightAt a d' x) : RightAt a d v := by
  intro cs w hJ hW
  obtain ⟨hx1, hx2, hx3, hx4, hx5, hx6⟩ := okJ_iff.1 hok
  obtain ⟨A1, c1, B1, d1, rfl, hS1, hc1, hd1, hL1⟩ := JC_iff.1 hJ
  have HS := Lib.hid hS1
  have HL := Lib.hid hL1
  have HW := Lib.hid hW
  have HI := Lib.hid IH
  have HB := Lib.hid (below2 w)
  have HZ : Hid (∀ k ∈ v.keys, k.size ≤ 1000000000) := Lib.hid (fun k hk => by have := hx5 k hk; omega)
  have hk1 : v.keys.length ≤ 1000000000 := by omega
  have hl1 : v.l.length ≤ 1000000000 := by omega
  have hs1 : v.s.size ≤ 1000000000 := by omega
  have HR := Lib.hid (right_split d v)
  clear hJ hS1 hL1 hW IH hx5 hx6 hok
  have ep : (decide (v.l.length = 0)) = ((v.l.length : Int) == 0) := by rw [Bool.eq_iff_iff]; simp
  have ek : (decide (v.keys.length = 0)) = ((v.keys.length : Int) == 0) := by rw [Bool.eq_iff_iff]; simp
  have en : (decide (v.n = 0)) = (v.n == 0) := by rw [Bool.eq_iff_iff]; simp
  have es := empty_dec v.s
  have HP : Hid (plJ v = (((v.l.length : Int) == 0) && ((v.keys.length : Int) == 0))) := Lib.hid (by unfold plJ; rw [ep, ek])
  have HBa : Hid (baJ v = (!v.yes && (v.n == 0) && v.s.toList.isEmpty)) := Lib.hid (by unfold baJ; rw [en, es])
  have HO : Hid (∀ k, v.kind = k → ownJ d v = if k = 0 then plJ v && baJ v else if k = 1 then plJ v && (v.n == 0) && v.s.toList.isEmpty else if k = 2 then plJ v && !v.yes && v.s.toList.isEmpty else if k = 3 then plJ v && !v.yes && (v.n == 0) && validB v.s else if k = 4 then baJ v && ((v.keys.length : Int) == 0) && decide (0 < d) else if k = 5 then baJ v && ((v.keys.length : Int) == (v.l.length : Int)) && keysOk v.keys && decide (0 < d) else false) := Lib.hid (fun k hk => by
    have e6 : decide (v.keys.length = v.l.length) = ((v.keys.length : Int) == (v.l.length : Int)) := by
      rw [Bool.eq_iff_iff, decide_eq_true_eq, beq_iff_eq]; omega
    subst hk
    by_cases c0 : v.kind = 0
    · rw [own_k0 c0, if_pos c0]
    by_cases c1 : v.kind = 1
    · rw [own_k1 c1, if_neg c0, if_pos c1, en, es]
    by_cases c2 : v.kind = 2
    · rw [own_k2 c2, if_neg c0, if_neg c1, if_pos c2, es]
    by_cases c3 : v.kind = 3
    · rw [own_k3 c3, if_neg c0, if_neg c1, if_neg c2, if_pos c3, en]
    by_cases c4 : v.kind = 4
    · rw [own_k4 c4, if_neg c0, if_neg c1, if_neg c2, if_neg c3, if_pos c4, ek]
    by_cases c5 : v.kind = 5
    · rw [own_k5 c5, if_neg c0, if_neg c1, if_neg c2, if_neg c3, if_neg c4, if_pos c5, e6]
    rw [own_k6 c0 c1 c2 c3 c4 c5, if_neg c0, if_neg c1, if_neg c2, if_neg c3, if_neg c4, if_neg c5])
  clear ep ek en es
  obtain ⟨y, hy⟩ : ∃ y, y = v.yes := ⟨_, rfl⟩
  rw [← hy] at HBa HO
  have HY := Lib.hid hy
  generalize hpl : plJ v = bp at *
  generalize hba : baJ v = bb at *
  clear hpl hba hy
  go_enter Tryz.func24, Tryz.ntmps24
  go_upto_region 1 with fail
  have x0 := box_at w (.cells #[.int .i64 (d : Int)] 3) #[.int .i64 v.kind, .bool v.yes, .int .i64 v.n, .string v.s, .slice A1 v.keys.length c1, .slice B1 v.l.length d1] 0 _ rfl
  have x1 := box_at w (.cells #[.int .i64 (d : Int)] 3) #[.int .i64 v.kind, .bool v.yes, .int .i64 v.n, .string v.s, .slice A1 v.keys.length c1, .slice B1 v.l.length d1] 1 _ rfl
  have x2 := box_at w (.cells #[.int .i64 (d : Int)] 3) #[.int .i64 v.kind, .bool v.yes, .int .i64 v.n, .string v.s, .slice A1 v.keys.length c1, .slice B1 v.l.length d1] 2 _ rfl
  have x3 := box_at w (.cells #[.int .i64 (d : Int)] 3) #[.int .i64 v.kind, .bool v.yes, .int .i64 v.n, .string v.s, .slice A1 v.keys.length c1, .slice B1 v.l.length d1] 3 _ rfl
  have x4 := box_at w (.cells #[.int .i64 (d : Int)] 3) #[.int .i64 v.kind, .bool v.yes, .int .i64 v.n, .string v.s, .slice A1 v.keys.length c1, .slice B1 v.l.length d1] 4 _ rfl
  have x5 := box_at w (.cells #[.int .i64 (d : Int)] 3) #[.int .i64 v.kind, .bool v.yes, .int .i64 v.n, .string v.s, .slice A1 v.keys.length c1, .slice B1 v.l.length d1] 5 _ rfl
  have xm : ((w.alloc (.cells #[.int .i64 v.kind, .bool v.yes, .int .i64 v.n, .string v.s, .slice A1 v.keys.length c1, .slice B1 v.l.length d1] tJ)).alloc (.cells #[.int .i64 (d : Int)] 3)).cell? ⟨w.heap.size + 1, 0, none⟩ = some (.int .i64 (d : Int)) := by
    have h1 := heap_alloc_new (w.alloc (.cells #[.int .i64 v.kind, .bool v.yes, .int .i64 v.n, .string v.s, .slice A1 v.keys.length c1, .slice B1 v.l.length d1] tJ)) (.cells #[.int .i64 (d : Int)] 3)
    rw [World.size_alloc] at h1
    rw [Lib.cell_of_heap h1]; rfl
  have HB0 := Lib.hid (HB.out (.cells #[.int .i64 v.kind, .bool v.yes, .int .i64 v.n, .string v.s, .slice A1 v.keys.length c1, .slice B1 v.l.length d1] tJ) (.cells #[.int .i64 (d : Int)] 3))
  have hz0 : ((w.alloc (.cells #[.int .i64 v.kind, .bool v.yes, .int .i64 v.n, .string v.s, .slice A1 v.keys.length c1, .slice B1 v.l.length d1] tJ)).alloc (.cells #[.int .i64 (d : Int)] 3)).heap.size = w.heap.size + 2 := by simp
  clear HB
  generalize (w.alloc (.cells #[.int .i64 v.kind, .bool v.yes, .int .i64 v.n, .string v.s, .slice A1 v.keys.length c1, .slice B1 v.l.length d1] tJ)).alloc (.cells #[.int .i64 (d : Int)] 3) = W0 at *
  rw [← HY.out] at x1
  clear HY
  go_cut [5] from 8 to 17 (fun p wx => p = .bool bp ∧ wx = W0)
  case first =>
    have hp := HP.out
    cases q1 : ((v.l.length : Int) == 0) <;> cases q2 : ((v.keys.length : Int) == 0)
    all_goals
      rw [q1, q2] at hp
      have HQ := Lib.hid hp
      clear hp
      go_wp2_with fail
      go_meet
      exact ⟨by rw [HQ.out]; rfl, rfl⟩
  case rest =>
  obtain ⟨rfl, rfl⟩ := hcut
  go_upto_region 2 with fail
  go_cut [6] from 18 to 30 (fun p wx => p = .bool bb ∧ wx = wc)
  case first =>
    have hp := HBa.out
    cases y <;> cases q2 : (v.n == 0) <;> cases q3 : v.s.toList.isEmpty
    all_goals
      rw [q2, q3] at hp
      have HQ := Lib.hid hp
      clear hp
      go_wp2_with fail
      go_meet
      exact ⟨by rw [HQ.out]; rfl, rfl⟩
  case rest =>
  obtain ⟨rfl, rfl⟩ := hcut
  go_upto_block 0 with fail
  go_cut [5, 6, 7] from 34 to 116 (fun p q r wx => r = .bool (ownJ d v) ∧ Below wc.heap.size wc wx)
  case first =>
    have HRf := Lib.hid (Below.refl wc.heap.size wc)
    clear HP HBa
    by_cases k0 : v.kind = 0
    · have HOk := HO.out 0 k0
      have q0 : (v.kind == 0) = true := by simpa using k0
      clear HO k0
      simp only [if_true] at HOk
      cases bp <;> cases bb
      all_goals
        have HQ := Lib.hid HOk
        clear HOk
        go_wp2_with fail
        go_meet
        exact ⟨by rw [HQ.out]; rfl, HRf.out⟩
    have q0 : (v.kind == 0) = false := by simpa using k0
    by_cases k1 : v.kind = 1
    · have HOk := HO.out 1 k1
      have q1 : (v.kind == 1) = true := by simpa using k1
      clear HO k0 k1
      simp only [show ¬ (1 : Int) = 0 by decide, if_false, if_true] at HOk
      cases bp <;> cases q2 : (v.n == 0) <;> cases q3 : v.s.toList.isEmpty
      all_goals
        rw [q2, q3] at HOk
        have HQ := Lib.hid HOk
        clear HOk
        go_wp2_with fail
        go_meet
        exact ⟨by rw [HQ.out]; rfl, HRf.out⟩
    have q1 : (v.kind == 1) = false := by simpa using k1
    by_cases k2 : v.kind = 2
    · have HOk := HO.out 2 k2
      have q2 : (v.kind == 2) = true := by simpa using k2
      clear HO k0 k1 k2
      simp only [show ¬ (2 : Int) = 0 by decide, show ¬ (2 : Int) = 1 by decide, if_false, if_true] at HOk
      cases bp <;> cases y <;> cases q3 : v.s.toList.isEmpty
      all_goals
        rw [q3] at HOk
        have HQ := Lib.hid HOk
        clear HOk
        go_wp2_with fail
        go_meet
        exact ⟨by rw [HQ.out]; rfl, HRf.out⟩
    have q2 : (v.kind == 2) = false := by simpa using k2
    by_cases k3 : v.kind = 3
    · have HOk := HO.out 3 k3
      have q3 : (v.kind == 3) = true := by simpa using k3
      clear HO k0 k1 k2 k3
      simp only [show ¬ (3 : Int) = 0 by decide, show ¬ (3 : Int) = 1 by decide, show ¬ (3 : Int) = 2 by decide, if_false, if_true] at HOk
      have HV := Lib.hid (Valid_lib v.s a wc hs1 (HW.out.keep HB0.out))
      cases bp <;> cases y <;> cases q4 : (v.n == 0)
      all_goals
        rw [q4] at HOk
        have HQ := Lib.hid HOk
        clear HOk
        go_wp2_with fail
        try (refine HV.out.mono ?_; rintro e w1 ⟨rfl, hb1⟩; have HB1 := Lib.hid hb1; clear hb1; go_wp2_with fail)
        go_meet
        first | exact ⟨by rw [HQ.out]; rfl, HRf.out⟩ | exact ⟨by rw [HQ.out]; rfl, HB1.out⟩
    have q3 : (v.kind == 3) = false := by simpa using k3
    by_cases k4 : v.kind = 4
    · have HOk := HO.out 4 k4
      have q4 : (v.kind == 4) = true := by simpa using k4
      clear HO k0 k1 k2 k3 k4
      simp only [show ¬ (4 : Int) = 0 by decide, show ¬ (4 : Int) = 1 by decide, show ¬ (4 : Int) = 2 by decide, show ¬ (4 : Int) = 3 by decide, if_false, if_true] at HOk
      cases bb <;> cases q5 : ((v.keys.length : Int) == 0) <;> cases q6 : decide (0 < d)
      all_goals
        rw [q5, q6] at HOk
        have HQ := Lib.hid HOk
        clear HOk
        go_wp2_with fail
        go_meet
        exact ⟨by rw [HQ.out]; rfl, HRf.out⟩
    have q4 : (v.kind == 4) = false := by simpa using k4
    by_cases k5 : v.kind = 5
    · have HOk := HO.out 5 k5
      have q5 : (v.kind == 5) = true := by simpa using k5
      clear HO k0 k1 k2 k3 k4 k5
      simp only [show ¬ (5 : Int) = 0 by decide, show ¬ (5 : Int) = 1 by decide, show ¬ (5 : Int) = 2 by decide, show ¬ (5 : Int) = 3 by decide, show ¬ (5 : Int) = 4 by decide, if_false, if_true] at HOk
      have HV := Lib.hid (areKeys_any a v.keys A1 c1 wc hk1 hc1 HZ.out (HS.out.below HB0.out) (HW.out.keep HB0.out))
      cases bb <;> cases q6 : ((v.keys.length : Int) == (v.l.length : Int)) <;> cases q7 : keysOk v.keys <;> cases q8 : decide (0 < d)
      all_goals
        rw [q6, q7, q8] at HOk
        rw [q7] at HV
        have HQ := Lib.hid HOk
        clear HOk
        go_wp2_with fail
        try (refine HV.out.mono ?_; rintro e w1 ⟨rfl, hb1⟩; have HB1 := Lib.hid hb1; have xm1 := cells_keep hb1 xm; clear hb1; go_wp2_with fail)
        go_meet
        first | exact ⟨by rw [HQ.out]; rfl, HRf.out⟩ | exact ⟨by rw [HQ.out]; rfl, HB1.out⟩
    have q5 : (v.kind == 5) = false := by simpa using k5
    have HQ : Hid (ownJ d v = false) := Lib.hid (own_k6 k0 k1 k2 k3 k4 k5)
    clear HO k0 k1 k2 k3 k4 k5
    go_wp2_with fail
    go_meet
    exact ⟨by rw [HQ.out], HRf.out⟩
  case rest =>
  obtain ⟨rfl, hbc⟩ := hcut
  have y5 := cells_keep hbc x5
  have ym := cells_keep hbc xm
  have HBc := Lib.hid (HB0.out.trans (hbc.mono HB0.out.size))
  have hzc := hbc.size
  have lc : w.heap.size < wc.heap.size := by omega
  clear x0 x1 x2 x3 x4 x5 xm hbc HO HP HBa
  cases ho : ownJ d v with
  | false =>
    have HE : Hid (rightJ d v = false) := Lib.hid (by rw [HR.out, ho]; rfl)
    go_wp2_with fail
    go_ret
    exact ⟨by rw [HE.out]; rfl, HBc.out⟩
  | true =>
    have HE : Hid (rightJ d v = v.l.all (rightJ (d - 1))) := Lib.hid (by rw [HR.out, ho]; rfl)
    have HF := Lib.hid (ContainsF_any a d hd v.l (own_items ho HI.out) (w.heap.size + 1) B1 d1 wc hl1 (HL.out.below HBc.out) (HW.out.keep HBc.out) ym)
    generalize v.l.all (rightJ (d - 1)) = ball at *
    go_wp2_with fail
    refine HF.out.mono ?_
    rintro e w1 ⟨rfl, hb1⟩
    have HB1 := Lib.hid (HBc.out.trans (hb1.mono HBc.out.size))
    clear hb1
    go_wp2_with fail
    go_ret
    refine ⟨?_, HB1.out⟩
    rw [HE.out]
    cases ball <;> rfl
theorem isRight_any (a : Addr) (M : Nat) (hM : M ≤ 1000000000) (v : Js) : ∀ d, d ≤ 1000 → okJ M v → RightAt a d v := by
  induction v using Js.ind with
  | _ v ih =>
    intro d hd hok
    exact isRight_step a M hM v hok d hd (fun d' e x hx => ih x hx d' (by omega) ((okJ_iff.1 hok).2.2.2.2.2 x hx))
set_option maxHeartbeats 1000000 in
theorem Right_any (a : Addr) (M : Nat) (hM : M ≤ 1000000000) (v : Js) (hok : okJ M v) (cs : List Value) (w : World) (hJ : JC w v cs) (hW : WJ a w) :
    Calls Tryz.prog 13 #[.agg cs.toArray] w fun e w' => e = .returned (.bool (rightJ 64 v)) ∧ Below w.heap.size w w' := by
  have HB := Lib.hid (fun o => below_new w o)
  have HJ := Lib.hid hJ
  have HW := Lib.hid hW
  have HH := Lib.hid (isRight_any a M hM v 64 (by omega) hok)
  obtain ⟨A1, c1, B1, d1, rfl, hS1, hc1, hd1, hL1⟩ := JC_iff.1 hJ
  clear hS1 hL1 hJ hW
  unfold RightAt at HH
  go_enter Tryz.func13, Tryz.ntmps13
  go_wp2_with fail
  refine (HH.out _ _ (HJ.out.keep (HB.out _)) (HW.out.keep (HB.out _))).mono ?_
  rintro e w1 ⟨rfl, hb1⟩
  have HB1 := Lib.hid ((HB.out _).trans (hb1.mono (HB.out _).size))
  clear hb1
  go_wp2_with fail
  go_ret
  exact ⟨rfl, HB1.out⟩
end Go.Proofs.YtamclieppbnpiabGreatDoor
/-
  Which values are right: by the document's program text. Small steps.
-/
namespace Go.Proofs.YtamclieppbnpiabGreatDoor
open Go Go.RowKit Go.Sort Go.Shelf
open Fz (HoldsS)


theorem bs_rest (l : List UInt8) (k : Nat) : (bs l).extract k (bs l).size = bs (l.drop k) := by rw [bs_size, bs_drop]
theorem inB_drop (s : ByteArray) (l : List ByteArray) (k : Nat) (x : ByteArray) (h : l[k]? = some x) : inB s (l.drop k) = (decide (x = s) || inB s (l.drop (k + 1))) := by
  obtain ⟨hk, rfl⟩ := List.getElem?_eq_some_iff.1 h
  rw [List.drop_eq_getElem_cons hk, inB]
end Go.Proofs.YtamclieppbnpiabGreatDoor
