/-
  Are two values the same: by the program.
-/
import Derived.Test.YtamclieppbnpiabGreatDoorProg
import Derived.Test.YtamclieppbnpiabGreatDoorReg
import Derived.WalkKit
import Derived.WalkSpells
import Derived.WalkLawsBesides
import Derived.Lib.Hide
import Derived.Lib.MinMax
import Derived.Deep.QuietTactic
import Derived.BigQuiet
import Derived.OwnWalk
import Derived.Deep.AppendLies
import Derived.KernelRfl
import Derived.Laws.RangeAny
import Derived.Test.YtamclieppbnpiabGreatDoorJw11
import Derived.Deep.RegionLaw
import Derived.Deep.RegionWith
set_option linter.unusedSimpArgs false
set_option linter.unusedVariables false
namespace Go.Proofs.YtamclieppbnpiabGreatDoor
open Go Go.RowKit Go.Sort Go.Shelf
open Fz (HoldsS)

open Classical in
/-- Are two the same? -/
noncomputable def sameJ (x y : Js) : Bool := decide (x = y)
open Classical in
noncomputable def samesJ (x y : List Js) : Bool := decide (x = y)
theorem sameJ_iff {x y : Js} : sameJ x y = true ↔ x = y := by unfold sameJ; simp
theorem samesJ_iff {x y : List Js} : samesJ x y = true ↔ x = y := by unfold samesJ; simp
theorem samesJ_no {x y : List Js} (h : x ≠ y) : samesJ x y = false := by
  cases hb : samesJ x y with
  | false => rfl
  | true => exact absurd (samesJ_iff.1 hb) h
theorem sameJ_no {x y : Js} (h : x ≠ y) : sameJ x y = false := by
  cases hb : sameJ x y with
  | false => rfl
  | true => exact absurd (sameJ_iff.1 hb) h
/-- The six cells, one by one. -/
theorem six {w : World} {b off : Nat} {cs : List Value} {v : Js} (hJ : JC w v cs) (h : ∀ j u, cs[j]? = some u → w.cell? ⟨b, off + j, none⟩ = some u) :
    ∃ (A : Option Addr) (c : Nat) (B : Option Addr) (d : Nat), cs = [.int .i64 v.kind, .bool v.yes, .int .i64 v.n, .string v.s, .slice A v.keys.length c, .slice B v.l.length d] ∧ HoldsS w A v.keys ∧ v.keys.length ≤ c ∧ v.l.length ≤ d ∧ HoldsJ w B v.l ∧
      w.cell? ⟨b, off, none⟩ = some (.int .i64 v.kind) ∧ w.cell? ⟨b, off + 1, none⟩ = some (.bool v.yes) ∧ w.cell? ⟨b, off + 2, none⟩ = some (.int .i64 v.n) ∧ w.cell? ⟨b, off + 3, none⟩ = some (.string v.s) ∧ w.cell? ⟨b, off + 4, none⟩ = some (.slice A v.keys.length c) ∧ w.cell? ⟨b, off + 5, none⟩ = some (.slice B v.l.length d) := by
  obtain ⟨A, c, B, d, rfl, h1, h2, h3, h4⟩ := JC_iff.1 hJ
  exact ⟨A, c, B, d, rfl, h1, h2, h3, h4, h 0 _ rfl, h 1 _ rfl, h 2 _ rfl, h 3 _ rfl, h 4 _ rfl, h 5 _ rfl⟩

theorem js_eq {x y : Js} : x = y ↔ x.kind = y.kind ∧ x.yes = y.yes ∧ x.n = y.n ∧ x.s = y.s ∧ x.keys = y.keys ∧ x.l = y.l := by
  obtain ⟨a1, a2, a3, a4, a5, a6⟩ := x
  obtain ⟨b1, b2, b3, b4, b5, b6⟩ := y
  simp [Js.kind, Js.yes, Js.n, Js.s, Js.keys, Js.l]
/-- What 'Same' says of two. -/
def SameAt (f : FuncId) (x y : Js) : Prop := ∀ (cs ds : List Value) (W : World), JC W x cs → JC W y ds → Calls Tryz.prog f #[.agg cs.toArray, .agg ds.toArray] W fun e w' => e = .returned (.bool (sameJ x y)) ∧ Below W.heap.size W w'
set_option maxRecDepth 100000 in
set_option maxHeartbeats 4000000 in
theorem EqualF_any (l m : List Js) (IH : ∀ x ∈ l, ∀ y ∈ m, SameAt 12 x y) (A B : Option Addr) (c d : Nat) (w : World) (hl : l.length ≤ 1000000000) (hm : m.length ≤ 1000000000) (hA : HoldsJ w A l) (hB : HoldsJ w B m) :
    Calls Tryz.prog 23 #[.slice A l.length c, .slice B m.length d, .func (.func 12) #[] #[]] w fun e w' => e = .returned (.bool (samesJ l m)) ∧ Below w.heap.size w w' := by
  have HA := Lib.hid hA
  have HB := Lib.hid hB
  have HI := Lib.hid IH
  clear hA hB IH
  by_cases hlm : l.length = m.length
  · have q : ((l.length : Int) != (m.length : Int)) = false := by rw [hlm]; simp
    have hl2 : m.length ≤ l.length := by omega
    have hl3 : l.length ≤ m.length := by omega
    have HL := Lib.hid hlm
    clear hlm
    go_enter Tryz.func23, Tryz.ntmps23
    go_wp2_with fail
    go_loopw [17] (fun i wr => ∃ (k : Nat), i = .int .i64 k ∧ k ≤ l.length ∧ Hid (∀ j : Nat, j < k → l[j]? = m[j]?) ∧ Hid (Below w.heap.size w wr)) (fun i _ => l.length - (intOf i).toNat)
    case atStart => exact ⟨0, rfl, Nat.zero_le _, Lib.hid (fun j hj => by omega), Lib.hid (Below.refl _ _)⟩
    case round =>
      obtain ⟨k, rfl, hk, HP, HK⟩ := hrel
      have i0 : (0 : Int) ≤ (k : Int) := by omega
      by_cases h1 : k < l.length
      · have i1 : (k : Int) < (l.length : Int) := by omega
        have i2 : (k : Int) < (m.length : Int) := by omega
        have gx := List.getElem?_eq_getElem (l := l) (i := k) h1
        have gy := List.getElem?_eq_getElem (l := m) (i := k) (by omega)
        have HI2 := Lib.hid (HI.out _ (List.getElem_mem h1) _ (List.getElem_mem (show k < m.length by omega)))
        have HPN : Hid (l[k]'h1 = m[k]'(by omega) → ∀ j : Nat, j < k + 1 → l[j]? = m[j]?) := Lib.hid (fun e j hj => by
          by_cases hjk : j = k
          · subst hjk; rw [gx, gy, e]
          · exact HP.out j (by omega))
        have HNE : Hid (l[k]'h1 ≠ m[k]'(by omega) → samesJ l m = false) := Lib.hid (fun hne => samesJ_no (fun e => hne (by subst e; rfl)))
        generalize l[k]'h1 = x at *
        generalize m[k]'(by omega) = y at *
        obtain ⟨b1, o1, cs, rfl, hc1, hJ1⟩ := (HA.out.below HK.out) k x gx
        obtain ⟨A1, c1, B1, d1, rfl, _, _, _, _, e0, e1, e2, e3, e4, e5⟩ := six (off := o1 + k * 6) hJ1 hc1
        obtain ⟨b2, o2, ds, rfl, hc2, hJ2⟩ := (HB.out.below HK.out) k y gy
        obtain ⟨A2, c2, B2, d2, rfl, _, _, _, _, f0, f1, f2, f3, f4, f5⟩ := six (off := o2 + k * 6) hJ2 hc2
        have hbN := below_new wr (.cells #[.int .i64 x.kind, .bool x.yes, .int .i64 x.n, .string x.s, .slice A1 x.keys.length c1, .slice B1 x.l.length d1] tJ)
        have f0' := cells_keep hbN f0
        have f1' := cells_keep hbN f1
        have f2' := cells_keep hbN f2
        have f3' := cells_keep hbN f3
        have f4' := cells_keep hbN f4
        have f5' := cells_keep hbN f5
        have HJ1 := Lib.hid hJ1
        have HJ2 := Lib.hid hJ2
        clear hc1 hc2 gx gy hJ1 hJ2 hbN
        have HBB := Lib.hid (below2 wr)
        by_cases hxy : x = y
        · have hs := sameJ_iff.2 hxy
          have HPN2 := Lib.hid (HPN.out hxy)
          have HC := Lib.hid HI2.out
          unfold SameAt at HC
          rw [hs] at HC
          clear hxy hs HPN HNE HI2
          go_wp2_with fail
          refine (HC.out _ _ _ (HJ1.out.keep (HBB.out _ _)) (HJ2.out.keep (HBB.out _ _))).mono ?_
          rintro e w3 ⟨rfl, hb3⟩
          have HK3 := Lib.hid (HK.out.trans (((HBB.out _ _).trans (hb3.mono (HBB.out _ _).size)).mono HK.out.size))
          clear hb3
          go_wp2_with fail
          go_roundw
          case rel => exact ⟨k + 1, by go_num, by omega, HPN2, HK3⟩
          case measure => simp [intOf]; omega
        · have hs := sameJ_no hxy
          have HE := Lib.hid (HNE.out hxy)
          have HC := Lib.hid HI2.out
          unfold SameAt at HC
          rw [hs] at HC
          clear hxy hs HPN HNE HI2
          go_wp2_with fail
          refine (HC.out _ _ _ (HJ1.out.keep (HBB.out _ _)) (HJ2.out.keep (HBB.out _ _))).mono ?_
          rintro e w3 ⟨rfl, hb3⟩
          have HK3 := Lib.hid (HK.out.trans (((HBB.out _ _).trans (hb3.mono (HBB.out _ _).size)).mono HK.out.size))
          clear hb3
          go_wp2_with fail
          go_ret
          exact ⟨by rw [HE.out]; rfl, HK3.out⟩
      · obtain rfl : k = l.length := by omega
        have HE : Hid (samesJ l m = true) := Lib.hid (samesJ_iff.2 (Fz.list_eq HL.out HP.out))
        go_wp2_with fail
        go_ret
        exact ⟨by rw [HE.out]; rfl, HK.out⟩
  · have q : ((l.length : Int) != (m.length : Int)) = true := by simp; omega
    have HE : Hid (samesJ l m = false) := Lib.hid (samesJ_no (fun e => hlm (by rw [e])))
    clear hlm
    go_enter Tryz.func23, Tryz.ntmps23
    go_wp2_with fail
    go_ret
    exact ⟨by rw [HE.out]; rfl, Below.refl _ _⟩
end Go.Proofs.YtamclieppbnpiabGreatDoor
/-
  Are two values the same: by the program, and by the document's program text.
-/
namespace Go.Proofs.YtamclieppbnpiabGreatDoor
open Go Go.RowKit Go.Sort Go.Shelf
open Fz (HoldsS)

set_option maxRecDepth 100000 in
set_option maxHeartbeats 8000000 in
theorem Same_any (M : Nat) (hM : M ≤ 1000000000) (x : Js) : ∀ y, okJ M x → okJ M y → SameAt 12 x y := by
  induction x using Js.ind with
  | _ x ih =>
  intro y hx hy cs ds w hJ1 hJ2
  obtain ⟨hx1, hx2, hx3, hx4, hx5, hx6⟩ := okJ_iff.1 hx
  obtain ⟨hy1, hy2, hy3, hy4, hy5, hy6⟩ := okJ_iff.1 hy
  obtain ⟨A1, c1, B1, d1, rfl, hS1, hc1, hd1, hL1⟩ := JC_iff.1 hJ1
  obtain ⟨A2, c2, B2, d2, rfl, hS2, hc2, hd2, hL2⟩ := JC_iff.1 hJ2
  have IH : Hid (∀ a ∈ x.l, ∀ b ∈ y.l, SameAt 12 a b) := Lib.hid (fun a ha b hb => ih a ha b (hx6 a ha) (hy6 b hb))
  have HB := Lib.hid (below2 w)
  have HS1 := Lib.hid hS1
  have HS2 := Lib.hid hS2
  have HL1 := Lib.hid hL1
  have HL2 := Lib.hid hL2
  clear hJ1 hJ2 hS1 hS2 hL1 hL2 ih hx6 hy6 hx5 hy5 hx hy
  have hk1 : x.keys.length ≤ 1000000000 := by omega
  have hk2 : y.keys.length ≤ 1000000000 := by omega
  have hl1 : x.l.length ≤ 1000000000 := by omega
  have hl2 : y.l.length ≤ 1000000000 := by omega
  by_cases q1 : x.kind = y.kind
  case neg =>
    have b1 : (x.kind == y.kind) = false := by simpa using q1
    have HE : Hid (sameJ x y = false) := Lib.hid (sameJ_no (fun e => q1 (js_eq.1 e).1))
    clear q1
    go_enter Tryz.func12, Tryz.ntmps12
    go_wp2_with fail
    go_ret
    exact ⟨by rw [HE.out]; rfl, HB.out _ _⟩
  have b1 : (x.kind == y.kind) = true := by simpa using q1
  by_cases q2 : x.yes = y.yes
  case neg =>
    have b2 : (x.yes == y.yes) = false := by simpa using q2
    have HE : Hid (sameJ x y = false) := Lib.hid (sameJ_no (fun e => q2 (js_eq.1 e).2.1))
    clear q1 q2
    go_enter Tryz.func12, Tryz.ntmps12
    go_wp2_with fail
    go_ret
    exact ⟨by rw [HE.out]; rfl, HB.out _ _⟩
  have b2 : (x.yes == y.yes) = true := by simpa using q2
  by_cases q3 : x.n = y.n
  case neg =>
    have b3 : (x.n == y.n) = false := by simpa using q3
    have HE : Hid (sameJ x y = false) := Lib.hid (sameJ_no (fun e => q3 (js_eq.1 e).2.2.1))
    clear q1 q2 q3
    go_enter Tryz.func12, Tryz.ntmps12
    go_wp2_with fail
    go_ret
    exact ⟨by rw [HE.out]; rfl, HB.out _ _⟩
  have b3 : (x.n == y.n) = true := by simpa using q3
  by_cases q4 : x.s = y.s
  case neg =>
    have b4 := bytes_beq_no q4
    have HE : Hid (sameJ x y = false) := Lib.hid (sameJ_no (fun e => q4 (js_eq.1 e).2.2.2.1))
    clear q1 q2 q3 q4
    go_enter Tryz.func12, Tryz.ntmps12
    go_wp2_with fail
    go_ret
    exact ⟨by rw [HE.out]; rfl, HB.out _ _⟩
  have b4 := bytes_beq_yes q4
  by_cases q5 : x.keys = y.keys
  case neg =>
    have b5 : decide (x.keys = y.keys) = false := by simpa using q5
    have HE : Hid (sameJ x y = false) := Lib.hid (sameJ_no (fun e => q5 (js_eq.1 e).2.2.2.2.1))
    have HQ := Lib.hid (fun W h1 h2 => Equal_lib x.keys y.keys A1 A2 c1 c2 W h1 h2 hk1 hk2)
    rw [b5] at HQ
    clear q1 q2 q3 q4 q5
    go_enter Tryz.func12, Tryz.ntmps12
    go_wp2_with fail
    refine (HQ.out _ (HS1.out.below (HB.out _ _)) (HS2.out.below (HB.out _ _))).mono ?_
    rintro e w1 ⟨rfl, hb1⟩
    have HB1 := Lib.hid ((HB.out _ _).trans (hb1.mono (HB.out _ _).size))
    clear hb1
    go_wp2_with fail
    go_ret
    exact ⟨by rw [HE.out]; rfl, HB1.out⟩
  have b5 : decide (x.keys = y.keys) = true := by simpa using q5
  have HE : Hid (sameJ x y = samesJ x.l y.l) := Lib.hid (by
    rw [Bool.eq_iff_iff, sameJ_iff, samesJ_iff, js_eq]
    exact ⟨fun h => h.2.2.2.2.2, fun h => ⟨q1, q2, q3, q4, q5, h⟩⟩)
  have HQ := Lib.hid (fun W h1 h2 => Equal_lib x.keys y.keys A1 A2 c1 c2 W h1 h2 hk1 hk2)
  rw [b5] at HQ
  have HF := Lib.hid (fun W h1 h2 => EqualF_any x.l y.l IH.out B1 B2 d1 d2 W hl1 hl2 h1 h2)
  generalize samesJ x.l y.l = bb at *
  clear q1 q2 q3 q4 q5
  go_enter Tryz.func12, Tryz.ntmps12
  go_wp2_with fail
  refine (HQ.out _ (HS1.out.below (HB.out _ _)) (HS2.out.below (HB.out _ _))).mono ?_
  rintro e w1 ⟨rfl, hb1⟩
  have HB1 := Lib.hid ((HB.out _ _).trans (hb1.mono (HB.out _ _).size))
  have a5 := cells_keep hb1 (box_at w _ _ 5 _ rfl)
  have z5 := cells_keep hb1 (box_at2 w _ _ 5 _ rfl)
  have hw1 := HB1.out.size
  clear hb1
  go_wp2_with fail
  refine (HF.out _ (HL1.out.below HB1.out) (HL2.out.below HB1.out)).mono ?_
  rintro e w2 ⟨rfl, hb2⟩
  have HB2 := Lib.hid (HB1.out.trans (hb2.mono HB1.out.size))
  clear hb2
  go_wp2_with fail
  go_ret
  exact ⟨by rw [HE.out]; rfl, HB2.out⟩

end Go.Proofs.YtamclieppbnpiabGreatDoor
