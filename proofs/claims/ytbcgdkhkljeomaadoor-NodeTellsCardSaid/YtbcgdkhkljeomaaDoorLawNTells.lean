/-
  The law NodeTells: true.
-/
import Derived.Test.YtbcgdkhkljeomaaDoorProg
import Derived.Test.YtbcgdkhkljeomaaDoorReg
import Derived.WalkKit
import Derived.WalkSpells
import Derived.WalkLawsBesides
import Derived.Lib.Hide
import Derived.Lib.MinMax
import Derived.Deep.QuietTactic
import Derived.BigQuiet
import Derived.OwnWalk
import Derived.Deep.AppendLies
import Derived.KernelRfl
import Derived.Test.YtbcgdkhkljeomaaDoorNdSh
import Derived.Test.YtbcgdkhkljeomaaDoorNdArg
import Derived.Test.YtbcgdkhkljeomaaDoorNdM
set_option linter.unusedSimpArgs false
set_option linter.unusedVariables false
namespace Go.Proofs.YtbcgdkhkljeomaaDoor
open Go.RowKit

abbrev errAt (a : Addr) (w : World) : Prop := errNodeAt a w
theorem err_below {a : Addr} {w w' : World} (h : errNodeAt a w) (hb : Below w.heap.size w w') : errNodeAt a w' := (hb.cell (p := ⟨0, 0, none⟩) (cell_lt h)).trans h
theorem few_len (t : List Nd) : (fewN t).length ≤ 60 := by simp [fewN]; omega
theorem few_int {t : List Nd} (h : ∀ x ∈ t, MayNd x) : IntN (fewN t) := fewN_small t (fun x hx => ⟨(h x hx).1, (h x hx).2.2.2⟩)
/-- 'Few', opened. -/
theorem fewC (t : List Nd) (A : Option Addr) (c : Nat) (w : World) (hh : HoldsN w A t) (hl : t.length ≤ maxLen) (hm : ∀ x ∈ t, MayNd x) :
    Calls Tryd.prog 11 #[.slice A t.length c] w fun e w' => ∃ B d, e = .returned (.slice B (fewN t).length d) ∧ HoldsN w' B (fewN t) ∧ (fewN t).length ≤ d ∧ Below w.heap.size w w' := by
  refine (few_any t A c w hh hl (fun x hx => (hm x hx).2.1) (fun x hx => (hm x hx).2.2.1)).mono ?_
  rintro e w' ⟨v, L, rfl, hL, hN, hb⟩
  obtain ⟨B, d, rfl, h1, h2⟩ := hN.opened hL rfl
  exact ⟨B, d, rfl, h1, h2, hb⟩

set_option maxRecDepth 100000 in
set_option maxHeartbeats 8000000 in
theorem nodeTells_any (t0 u0 : List Nd) (A C : Option Addr) (c d : Nat) (a : Addr) (w : World) (hA : HoldsN w A t0) (hC : HoldsN w C u0) (hl : t0.length ≤ maxLen) (hm : u0.length ≤ maxLen) (h1 : ∀ x ∈ t0, MayNd x) (h2 : ∀ x ∈ u0, MayNd x) (he : errNodeAt a w) :
    Calls Tryd.prog 6 #[.slice A t0.length c, .slice C u0.length d] w fun e w' => e = .returned (.bool true) ∧ Below w.heap.size w w' := by
  have HS := Lib.hid (shown_any a w he)
  go_enter Tryd.func6, Tryd.ntmps6
  go_wp2_with fail
  refine HS.out.mono ?_
  rintro e w1 ⟨rfl, hb1⟩
  have H1 := Lib.hid (fewC t0 A c w1 (hA.below hb1) hl h1)
  have hC1 := hC.below hb1
  have lt0 := few_len t0
  have it0 := Lib.hid (few_int h1)
  clear HS hA he
  generalize fewN t0 = t at *
  go_wp2_with fail
  refine H1.out.mono ?_
  rintro e w2 ⟨A2, c2, rfl, hA2, q2, hb2⟩
  have B2 := Lib.hid (hb1.trans (hb2.mono hb1.size))
  have H2 := Lib.hid (fewC u0 C d w2 (hC1.below hb2) hm h2)
  have lu0 := few_len u0
  have iu0 := Lib.hid (few_int h2)
  clear H1 hC hC1 hb1 hb2
  generalize fewN u0 = u at *
  go_wp2_with fail
  refine H2.out.mono ?_
  rintro e w3 ⟨C3, d3, rfl, hC3, q3, hb3⟩
  have hA3 := hA2.below hb3
  have B3 := Lib.hid (B2.out.trans (hb3.mono B2.out.size))
  clear H2 hA2 hb3 B2 hl hm h1 h2
  have H3 := Lib.hid (right_any t A2 c2 w3 hA3 it0.out)
  have qr : (rightN t == rightN t) = true := by simp
  have qs := bytes_beq_yes (rfl : showN t = showN t)
  have qd : (((deepN t : Nat) : Int) == ((deepN t : Nat) : Int)) = true := by simp
  have qe : (decide (t = u) == decide (t = u)) = true := by simp
  have HRt : Hid (∀ (v : World), HoldsN v A2 t → Calls Tryd.prog 24 #[.slice A2 t.length c2] v fun e w' => e = .returned (.bool (rightN t)) ∧ Below v.heap.size v w') := Lib.hid (fun v hv => refRight_any t A2 c2 v hv it0.out)
  have HSh : Hid (∀ (v : World), HoldsN v A2 t → Calls Tryd.prog 22 #[.slice A2 t.length c2] v fun e w' => e = .returned (.string (showN t)) ∧ Below v.heap.size v w') := Lib.hid (fun v hv => showAll_any t A2 c2 v hv it0.out)
  have HSr : Hid (∀ (v : World), HoldsN v A2 t → Calls Tryd.prog 25 #[.slice A2 t.length c2] v fun e w' => e = .returned (.string (showN t)) ∧ Below v.heap.size v w') := Lib.hid (fun v hv => refShowAll_any t A2 c2 v hv it0.out)
  have HDe : Hid (∀ (v : World), HoldsN v A2 t → Calls Tryd.prog 21 #[.slice A2 t.length c2] v fun e w' => e = .returned (.int .i64 (deepN t)) ∧ Below v.heap.size v w') := Lib.hid (fun v hv => deep_any t A2 c2 v hv it0.out)
  have HDr : Hid (∀ (v : World), HoldsN v A2 t → Calls Tryd.prog 26 #[.slice A2 t.length c2] v fun e w' => e = .returned (.int .i64 (deepN t)) ∧ Below v.heap.size v w') := Lib.hid (fun v hv => refDeepAll_any t A2 c2 v hv it0.out)
  have HSa : Hid (∀ (v : World), HoldsN v A2 t → HoldsN v C3 u → Calls Tryd.prog 27 #[.slice A2 t.length c2, .slice C3 u.length d3] v fun e w' => e = .returned (.bool (decide (t = u))) ∧ Below v.heap.size v w') := Lib.hid (fun v hv hu => same_any t u A2 C3 c2 d3 v (by omega) (by omega) hv hu it0.out iu0.out)
  have HSR : Hid (∀ (v : World), HoldsN v A2 t → HoldsN v C3 u → Calls Tryd.prog 19 #[.slice A2 t.length c2, .slice C3 u.length d3] v fun e w' => e = .returned (.bool (decide (t = u))) ∧ Below v.heap.size v w') := Lib.hid (fun v hv hu => refSame_any t u A2 C3 c2 d3 v (by omega) (by omega) hv hu it0.out iu0.out)
  have HSt : Hid (∀ (v : World), HoldsN v A2 t → Calls Tryd.prog 27 #[.slice A2 t.length c2, .slice A2 t.length c2] v fun e w' => e = .returned (.bool true) ∧ Below v.heap.size v w') := Lib.hid (fun v hv => by
    have := same_any t t A2 A2 c2 c2 v (by omega) (by omega) hv hv it0.out it0.out
    simpa using this)
  clear it0 iu0
  generalize showN t = sh at *
  generalize deepN t = de at *
  generalize rightN t = ri at *
  generalize decide (t = u) = sa at *
  go_wp2_with fail
  refine H3.out.mono ?_
  rintro e w4 ⟨rfl, hb4⟩
  have hA4 := hA3.below hb4
  have hC4 := hC3.below hb4
  have B4 := Lib.hid (B3.out.trans (hb4.mono B3.out.size))
  clear H3 hb4 hA3 hC3
  go_wp2_with fail
  refine (HRt.out _ hA4).mono ?_
  rintro e w5 ⟨rfl, hb5⟩
  have hA5 := hA4.below hb5
  have hC5 := hC4.below hb5
  have B5 := Lib.hid (B4.out.trans (hb5.mono B4.out.size))
  clear HRt hb5 hA4 hC4
  go_wp2_with fail
  refine (HSh.out _ hA5).mono ?_
  rintro e w6 ⟨rfl, hb6⟩
  have hA6 := hA5.below hb6
  have hC6 := hC5.below hb6
  have B6 := Lib.hid (B5.out.trans (hb6.mono B5.out.size))
  clear HSh hb6 hA5 hC5
  go_wp2_with fail
  refine (HSr.out _ hA6).mono ?_
  rintro e w7 ⟨rfl, hb7⟩
  have hA7 := hA6.below hb7
  have hC7 := hC6.below hb7
  have B7 := Lib.hid (B6.out.trans (hb7.mono B6.out.size))
  clear HSr hb7 hA6 hC6
  go_wp2_with fail
  refine (HDe.out _ hA7).mono ?_
  rintro e w8 ⟨rfl, hb8⟩
  have hA8 := hA7.below hb8
  have hC8 := hC7.below hb8
  have B8 := Lib.hid (B7.out.trans (hb8.mono B7.out.size))
  clear HDe hb8 hA7 hC7
  go_wp2_with fail
  refine (HDr.out _ hA8).mono ?_
  rintro e w9 ⟨rfl, hb9⟩
  have hA9 := hA8.below hb9
  have hC9 := hC8.below hb9
  have B9 := Lib.hid (B8.out.trans (hb9.mono B8.out.size))
  clear HDr hb9 hA8 hC8
  go_wp2_with fail
  refine (HSa.out _ hA9 hC9).mono ?_
  rintro e w10 ⟨rfl, hb10⟩
  have hA10 := hA9.below hb10
  have hC10 := hC9.below hb10
  have B10 := Lib.hid (B9.out.trans (hb10.mono B9.out.size))
  clear HSa hb10 hA9 hC9
  go_wp2_with fail
  refine (HSR.out _ hA10 hC10).mono ?_
  rintro e w11 ⟨rfl, hb11⟩
  have hA11 := hA10.below hb11
  have B11 := Lib.hid (B10.out.trans (hb11.mono B10.out.size))
  clear HSR hb11 hA10 hC10
  go_wp2_with fail
  refine (HSt.out _ hA11).mono ?_
  rintro e w12 ⟨rfl, hb12⟩
  have B12 := Lib.hid (B11.out.trans (hb12.mono B11.out.size))
  go_wp2_with fail
  go_ret
  exact ⟨rfl, B12.out⟩
end Go.Proofs.YtbcgdkhkljeomaaDoor
