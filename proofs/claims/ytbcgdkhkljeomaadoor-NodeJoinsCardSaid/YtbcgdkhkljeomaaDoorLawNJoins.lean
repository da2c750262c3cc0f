/-
  The law NodeJoins: true.
-/
import Derived.Test.YtbcgdkhkljeomaaDoorProg
import Derived.Test.YtbcgdkhkljeomaaDoorReg
import Derived.WalkKit
import Derived.WalkSpells
import Derived.WalkLawsBesides
import Derived.Lib.Hide
import Derived.Lib.MinMax
import Derived.Deep.QuietTactic
import Derived.BigQuiet
import Derived.OwnWalk
import Derived.Deep.AppendLies
import Derived.KernelRfl
import Derived.Test.YtbcgdkhkljeomaaDoorNdLo
set_option linter.unusedSimpArgs false
set_option linter.unusedVariables false
namespace Go.Proofs.YtbcgdkhkljeomaaDoor
open Go.RowKit

set_option maxRecDepth 100000 in
set_option maxHeartbeats 8000000 in
theorem nodeJoins_any (kind : Int) (s : ByteArray) (l0 : List (List Nd)) (t0 : List Nd) (n : Int) (C A : Option Addr) (d c : Nat) (a : Addr) (w : World) (hk : (Lit.int .i64 kind).wf = true) (hs : s.size ≤ maxLen)
    (hl : l0.length ≤ maxLen) (hsl : ∀ t ∈ l0, t.length ≤ maxLen ∧ ∀ k ∈ t, MayNd k) (hC : HoldsTs w C l0) (hA : HoldsN w A t0) (htl : t0.length ≤ maxLen) (hm : ∀ x ∈ t0, MayNd x) (hn : (Lit.int .i64 n).wf = true) (he : errNodeAt a w) :
    Calls Tryd.prog 3 #[.int .i64 kind, .string s, .slice C l0.length d, .slice A t0.length c, .int .i64 n] w fun e w' => e = .returned (.bool true) ∧ Below w.heap.size w w' := by
  have HS := Lib.hid (shown_any a w he)
  have HCu := Lib.hid (fun u => cut_any s u hs)
  have hcs := cut_size s
  have HSm := Lib.hid (some_small hsl)
  have it := few_int hm
  have lt := few_len t0
  have HLe := Lib.hid (fun u (hu : errNodeAt a u) => leafC kind (cut50 s) a u hk hcs hu)
  have HLr := Lib.hid (fun u => refLeafC kind (cut50 s) u hk hcs)
  have HJo := Lib.hid (fun u B q (hu : errNodeAt a u) hB => joinC kind (cut50 s) (someN l0) B q a u hk hcs HSm.out hB hu)
  have HJr := Lib.hid (fun u B q hB => refJoinC kind (cut50 s) (someN l0) B q u hk hcs HSm.out hB)
  have HKi := Lib.hid (fun u B q (hu : errNodeAt a u) hB hq => kidC (fewN t0) n B q a u hB it hq (by omega) hu)
  have HKr := Lib.hid (fun u B q hB hq => refKidC (fewN t0) n B q u hB it hq (by omega))
  have i1 := Lib.hid (out_int (fun x hx => join_int (l := []) hx (by omega) (fun t ht => by simp at ht)) : IntN (outOf (joinN kind (cut50 s) [])))
  have i2 := Lib.hid (out_int (fun x hx => join_int hx (by omega) (fun t ht => (HSm.out.2 t ht).2)) : IntN (outOf (joinN kind (cut50 s) (someN l0))))
  have i3 := Lib.hid (out_int (fun x hx => (kid_int hx it).1) : IntN (outOf (kidN (fewN t0) n)))
  have n1 : (outOf (joinN kind (cut50 s) [])).length ≤ 400 := out_len (fun x hx => (joinN_eq hx).2.2)
  have n2 : (outOf (joinN kind (cut50 s) (someN l0))).length ≤ 400 := out_len (fun x hx => (joinN_eq hx).2.2)
  have n3 : (outOf (kidN (fewN t0) n)).length ≤ 400 := out_len (fun x hx => (kid_int hx it).2)
  have HSo := Lib.hid (fun u B q hB => someC l0 B q u hl hsl hB)
  have HFe := Lib.hid (fun u B q hB => fewC t0 B q u hB htl hm)
  unfold Gives at HLe HLr HJo HJr HKi HKr
  generalize hj1 : joinN kind (cut50 s) [] = o1 at *
  generalize hj2 : joinN kind (cut50 s) (someN l0) = o2 at *
  generalize hj3 : kidN (fewN t0) n = o3 at *
  clear hj1 hj2 hj3 it HSm hm hsl lt
  have q1 : (codeO o1 == codeO o1) = true := by simp
  have q2 : (codeO o2 == codeO o2) = true := by simp
  have q3 : (codeO o3 == codeO o3) = true := by simp
  generalize codeO o1 = c1 at *
  generalize codeO o2 = c2 at *
  generalize codeO o3 = c3 at *
  generalize outOf o1 = x1 at *
  generalize outOf o2 = x2 at *
  generalize outOf o3 = x3 at *
  generalize cut50 s = cs at *
  generalize someN l0 = l at *
  generalize fewN t0 = t at *
  have S1 := Lib.hid (fun u B D b d hB hD => refSameC x1 B D b d u (by omega) hB hD i1.out)
  have S2 := Lib.hid (fun u B D b d hB hD => refSameC x2 B D b d u (by omega) hB hD i2.out)
  have S3 := Lib.hid (fun u B D b d hB hD => refSameC x3 B D b d u (by omega) hB hD i3.out)
  clear i1 i2 i3
  go_enter Tryd.func3, Tryd.ntmps3
  go_wp2_with fail
  refine HS.out.mono ?_
  rintro e w1 ⟨rfl, hb1⟩
  have hC1 := hC.below hb1
  have hA1 := hA.below hb1
  have he1 := err_below he hb1
  clear HS hC hA he
  go_wp2_with fail
  refine (HSo.out w1 C d hC1).mono ?_
  rintro e w2 ⟨C2, d2, rfl, hC2, z2, hb2⟩
  have hA2 := hA1.below hb2
  have he2 := err_below he1 hb2
  have B2 := Lib.hid (hb1.trans (hb2.mono hb1.size))
  clear HSo hC1 hA1 he1 hb1 hb2
  go_wp2_with fail
  refine (HFe.out w2 A c hA2).mono ?_
  rintro e w3 ⟨A3, c3', rfl, hA3, z3, hb3⟩
  have hC3 := hC2.below hb3
  have he3 := err_below he2 hb3
  have B3 := Lib.hid (B2.out.trans (hb3.mono B2.out.size))
  clear HFe hA2 hC2 he2 hb3 B2
  go_wp2_with fail
  refine (HCu.out w3).mono ?_
  rintro e w3' ⟨rfl, rfl⟩
  go_wp2_with fail
  refine (HLe.out _ he3).mono ?_
  rintro e w4 ⟨D4, e4, rfl, hD4, z4, hb4⟩
  have hA4 := hA3.below hb4
  have hC4 := hC3.below hb4
  have he4 := err_below he3 hb4
  have B4 := Lib.hid (B3.out.trans (hb4.mono B3.out.size))
  clear HLe hA3 hC3 he3 hb4 B3
  go_wp2_with fail
  refine (HCu.out w4).mono ?_
  rintro e w4' ⟨rfl, rfl⟩
  go_wp2_with fail
  refine (HLr.out _).mono ?_
  rintro e w5 ⟨D5, e5, rfl, hD5, z5, hb5⟩
  have hA5 := hA4.below hb5
  have hC5 := hC4.below hb5
  have he5 := err_below he4 hb5
  have hD45 := hD4.below hb5
  have B5 := Lib.hid (B4.out.trans (hb5.mono B4.out.size))
  clear HLr hA4 hC4 he4 hb5 B4 hD4
  go_wp2_with fail
  refine (HCu.out w5).mono ?_
  rintro e w5' ⟨rfl, rfl⟩
  go_wp2_with fail
  refine (HJo.out _ C2 d2 he5 hC5).mono ?_
  rintro e w6 ⟨D6, e6, rfl, hD6, z6, hb6⟩
  have hA6 := hA5.below hb6
  have hC6 := hC5.below hb6
  have he6 := err_below he5 hb6
  have hD46 := hD45.below hb6
  have hD56 := hD5.below hb6
  have B6 := Lib.hid (B5.out.trans (hb6.mono B5.out.size))
  clear HJo hA5 hC5 he5 hb6 B5 hD45 hD5
  go_wp2_with fail
  refine (HCu.out w6).mono ?_
  rintro e w6' ⟨rfl, rfl⟩
  go_wp2_with fail
  refine (HJr.out _ C2 d2 hC6).mono ?_
  rintro e w7 ⟨D7, e7, rfl, hD7, z7, hb7⟩
  have hA7 := hA6.below hb7
  have he7 := err_below he6 hb7
  have hD47 := hD46.below hb7
  have hD57 := hD56.below hb7
  have hD67 := hD6.below hb7
  have B7 := Lib.hid (B6.out.trans (hb7.mono B6.out.size))
  clear HJr hA6 hC6 he6 hb7 B6 hD46 hD56 hD6
  go_wp2_with fail
  refine (HKi.out w7 A3 c3' he7 hA7 z3).mono ?_
  rintro e w8 ⟨D8, e8, rfl, hD8, z8, hb8⟩
  have hA8 := hA7.below hb8
  have hD48 := hD47.below hb8
  have hD58 := hD57.below hb8
  have hD68 := hD67.below hb8
  have hD78 := hD7.below hb8
  have B8 := Lib.hid (B7.out.trans (hb8.mono B7.out.size))
  clear HKi hA7 he7 hb8 B7 hD47 hD57 hD67 hD7
  go_wp2_with fail
  refine (HKr.out w8 A3 c3' hA8 z3).mono ?_
  rintro e w9 ⟨D9, e9, rfl, hD9, z9, hb9⟩
  have hD49 := hD48.below hb9
  have hD59 := hD58.below hb9
  have hD69 := hD68.below hb9
  have hD79 := hD78.below hb9
  have hD89 := hD8.below hb9
  have B9 := Lib.hid (B8.out.trans (hb9.mono B8.out.size))
  clear HKr hA8 hb9 B8 hD48 hD58 hD68 hD78 hD8
  go_wp2_with fail
  refine (S1.out w9 D4 D5 e4 e5 hD49 hD59).mono ?_
  rintro e w10 ⟨rfl, hb10⟩
  have hD6t := hD69.below hb10
  have hD7t := hD79.below hb10
  have hD8t := hD89.below hb10
  have hD9t := hD9.below hb10
  have B10 := Lib.hid (B9.out.trans (hb10.mono B9.out.size))
  clear S1 hb10 B9 hD49 hD59 hD69 hD79 hD89 hD9
  go_wp2_with fail
  refine (S2.out w10 D6 D7 e6 e7 hD6t hD7t).mono ?_
  rintro e w11 ⟨rfl, hb11⟩
  have hD8u := hD8t.below hb11
  have hD9u := hD9t.below hb11
  have B11 := Lib.hid (B10.out.trans (hb11.mono B10.out.size))
  clear S2 hb11 B10 hD6t hD7t hD8t hD9t
  go_wp2_with fail
  refine (S3.out w11 D8 D9 e8 e9 hD8u hD9u).mono ?_
  rintro e w12 ⟨rfl, hb12⟩
  have B12 := Lib.hid (B11.out.trans (hb12.mono B11.out.size))
  go_wp2_with fail
  go_ret
  exact ⟨rfl, B12.out⟩
end Go.Proofs.YtbcgdkhkljeomaaDoor
