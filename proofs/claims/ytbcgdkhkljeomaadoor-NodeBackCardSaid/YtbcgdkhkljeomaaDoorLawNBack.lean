/-
  The law NodeBack: true.
-/
import Derived.Test.YtbcgdkhkljeomaaDoorProg
import Derived.Test.YtbcgdkhkljeomaaDoorReg
import Derived.WalkKit
import Derived.WalkSpells
import Derived.WalkLawsBesides
import Derived.Lib.Hide
import Derived.Lib.MinMax
import Derived.Deep.QuietTactic
import Derived.BigQuiet
import Derived.OwnWalk
import Derived.Deep.AppendLies
import Derived.KernelRfl
import Derived.Lib.MinMax
import Derived.Test.YtbcgdkhkljeomaaDoorNdLo
set_option linter.unusedSimpArgs false
set_option linter.unusedVariables false
namespace Go.Proofs.YtbcgdkhkljeomaaDoor
open Go.RowKit

theorem deepN_le (t : List Nd) : deepN t ≤ 400 := by
  cases h : rightN t with
  | false => rw [deepN_no h]; omega
  | true =>
    obtain ⟨r1, r2, hok, _⟩ := rightN_parts h
    have := deepAt_le hok (t.length) (t.length - 1) (by omega) (by omega)
    rw [deepN_yes h]
    omega
theorem deepest_snoc (l : List (List Nd)) (t : List Nd) : deepest (l ++ [t]) = max (deepest l) (deepN t) := by unfold deepest; rw [List.foldl_append]; rfl
theorem sizeOfT_snoc (l : List (List Nd)) (t : List Nd) : sizeOfT (l ++ [t]) = sizeOfT l + t.length := by unfold sizeOfT; rw [List.map_append, List.sum_append]; simp
theorem deepest_le (l : List (List Nd)) : deepest l ≤ 400 := by
  unfold deepest
  have key : ∀ (l : List (List Nd)) (b : Nat), b ≤ 400 → l.foldl (fun m t => max m (deepN t)) b ≤ 400 := by
    intro l
    induction l with
    | nil => intro b h; exact h
    | cons t l ih => intro b h; exact ih _ (Nat.max_le.2 ⟨h, deepN_le t⟩)
  exact key l 0 (by omega)
theorem sizeOfT_take_le : ∀ (l : List (List Nd)) (i : Nat), sizeOfT (l.take i) ≤ sizeOfT l
  | [], i => by simp
  | t :: l, 0 => by simp [sizeOfT]
  | t :: l, i + 1 => by
    have := sizeOfT_take_le l i
    unfold sizeOfT at *
    simp only [List.take_succ_cons, List.map_cons, List.sum_cons]
    omega

set_option maxRecDepth 100000 in
set_option maxHeartbeats 8000000 in
theorem nodeBack_any (kind : Int) (s : ByteArray) (l0 : List (List Nd)) (C : Option Addr) (d : Nat) (a : Addr) (w : World) (hk : (Lit.int .i64 kind).wf = true) (hs : s.size ≤ maxLen)
    (hl : l0.length ≤ maxLen) (hsl : ∀ t ∈ l0, t.length ≤ maxLen ∧ ∀ k ∈ t, MayNd k) (hC : HoldsTs w C l0) (he : errNodeAt a w) :
    Calls Tryd.prog 7 #[.int .i64 kind, .string s, .slice C l0.length d] w fun e w' => e = .returned (.bool true) ∧ Below w.heap.size w w' := by
  have HS := Lib.hid (shown_any a w he)
  have HCu := Lib.hid (fun u => cut_any s u hs)
  have hcs := cut_size s
  have HSm := Lib.hid (some_small hsl)
  have HSo := Lib.hid (fun u B q hB => someC l0 B q u hl hsl hB)
  have HJo := Lib.hid (fun u B q (hu : errNodeAt a u) hB => joinC kind (cut50 s) (someN l0) B q a u hk hcs HSm.out hB hu)
  generalize cut50 s = cs at *
  generalize someN l0 = l at *
  have hl4 := HSm.out.1
  unfold Gives at HJo
  clear hsl
  go_enter Tryd.func7, Tryd.ntmps7
  go_wp2_with fail
  refine HS.out.mono ?_
  rintro e w1 ⟨rfl, hb1⟩
  have hC1 := hC.below hb1
  have he1 := err_below he hb1
  clear HS hC he
  go_wp2_with fail
  refine (HSo.out w1 C d hC1).mono ?_
  rintro e w2 ⟨C2, d2, rfl, hC2, z2, hb2⟩
  have he2 := err_below he1 hb2
  have B2 := Lib.hid (hb1.trans (hb2.mono hb1.size))
  clear HSo hC1 he1 hb1 hb2
  go_wp2_with fail
  refine (HCu.out w2).mono ?_
  rintro e w2' ⟨rfl, rfl⟩
  go_wp2_with fail
  refine (HJo.out _ C2 d2 he2 hC2).mono ?_
  cases hj : joinN kind cs l with
  | none =>
    rintro e w3 ⟨D, e3, rfl, -, -, hb3⟩
    simp only [outOf, codeO, Option.getD_none, Option.isSome_none, List.length_nil, Bool.false_eq_true, if_false]
    have B3 := Lib.hid (B2.out.trans (hb3.mono B2.out.size))
    clear hb3 hj HJo
    go_wp2_with fail
    go_ret
    exact ⟨rfl, B3.out⟩
  | some out =>
    rintro e w3 ⟨D, e3, rfl, hD, z3, hb3⟩
    simp only [outOf, Option.getD_some] at hD z3
    simp only [outOf, codeO, Option.getD_some, Option.isSome_some, if_true]
    have HJ := Lib.hid (joined_is hj)
    have hi := join_int hj (by omega) (fun t ht => (HSm.out.2 t ht).2)
    have hol := right_len HJ.out.right
    have hC3 := Lib.hid (hC2.below hb3)
    have he3 := err_below he2 hb3
    have B3 := Lib.hid (B2.out.trans (hb3.mono B2.out.size))
    have hD3 := Lib.hid hD
    have HKi := Lib.hid (fun u (n : Int) (hb : Below w3.heap.size w3 u) => kidC out n D e3 a u (hD.below hb) hi z3 (by omega) (err_below he3 hb))
    have HRi := Lib.hid (fun u (hb : Below w3.heap.size w3 u) => right_any out D e3 u (hD.below hb) hi)
    have HDe := Lib.hid (fun u (hb : Below w3.heap.size w3 u) => deep_any out D e3 u (hD.below hb) hi)
    have hos := Lib.hid HJ.out.size
    have hod := Lib.hid HJ.out.deep
    have hdl := deepest_le l
    unfold Gives at HKi
    clear hj HJo hb3 hD hC2 he2 B2 hi
    go_wp2_with fail
    go_loopw [10, 11, 12] (fun sz dp v wr => ∃ (i : Nat), v = .int .i64 i ∧ i ≤ l.length ∧ sz = .int .i64 ((1 + sizeOfT (l.take i) : Nat) : Int) ∧ dp = .int .i64 ((deepest (l.take i) : Nat) : Int) ∧ Hid (Below w3.heap.size w3 wr)) (fun _ _ v _ => l.length - (intOf v).toNat)
    case atStart => exact ⟨0, rfl, Nat.zero_le _, rfl, rfl, Lib.hid (Below.refl _ _)⟩
    case round =>
      obtain ⟨i, rfl, hi, rfl, rfl, HB⟩ := hrel
      by_cases hlt : i < l.length
      · have g := List.getElem?_eq_getElem hlt
        have HK := HKi.out wr (i : Int) HB.out
        rw [HJ.out.kid i _ g] at HK
        simp only [outOf, codeO, Option.getD_some, Option.isSome_some, if_true] at HK
        obtain ⟨st1, st2⟩ := HSm.out.2 _ (List.getElem_mem hlt)
        obtain ⟨b, off, rfl, B, c0, f0, hB, zB⟩ := hC3.out i _ g
        have hbl := cell_lt f0
        have f1 := (HB.out.cell (p := ⟨b, _, none⟩) hbl).trans f0
        have hsz : sizeOfT (l.take (i + 1)) = sizeOfT (l.take i) + (l[i]).length := by rw [take_one g, sizeOfT_snoc]
        have hdp : deepest (l.take (i + 1)) = max (deepest (l.take i)) (deepN l[i]) := by rw [take_one g, deepest_snoc]
        have hszl := sizeOfT_take_le l (i + 1)
        have hd1 := deepest_le (l.take i)
        have hd2 := deepN_le l[i]
        generalize l[i] = t at *
        have HK2 := Lib.hid HK
        have HSa := Lib.hid (fun u A q hA hb => same_any t t A B q c0 u (by omega) (by omega) hA (hB.below (HB.out.trans hb : Below w3.heap.size w3 u)) st2 st2)
        have HDt := Lib.hid (fun u hb => deep_any t B c0 u (hB.below (HB.out.trans hb : Below w3.heap.size w3 u)) st2)
        simp only [decide_true] at HSa
        have HMX : Hid (max ((deepest (l.take i) : Nat) : Int) ((deepN t : Nat) : Int) = ((max (deepest (l.take i)) (deepN t) : Nat) : Int)) := Lib.hid (by omega)
        have HSZ := Lib.hid hsz
        have HDP := Lib.hid hdp
        clear HK g st2 hB hsz hdp
        generalize sizeOfT (l.take i) = si at *
        generalize deepest (l.take i) = di at *
        generalize deepN t = dt at *
        go_wp2_with fail
        refine HK2.out.mono ?_
        rintro e w4 ⟨A4, c4, rfl, hA4, z4, hb4⟩
        have f4 := (hb4.cell (p := ⟨b, _, none⟩) (Nat.lt_of_lt_of_le hbl HB.out.size)).trans f1
        have B4 := Lib.hid (HB.out.trans (hb4.mono HB.out.size))
        have HS4 := Lib.hid (HSa.out w4 A4 c4 hA4 (hb4.mono HB.out.size))
        clear HSa hA4 HK2
        go_wp2_with fail
        refine HS4.out.mono ?_
        rintro e w5 ⟨rfl, hb5⟩
        have f5 := (hb5.cell (p := ⟨b, _, none⟩) (cell_lt f4)).trans f4
        have B5 := Lib.hid (B4.out.trans (hb5.mono B4.out.size))
        have HD5 := Lib.hid (HDt.out w5 ((hb4.mono HB.out.size).trans (hb5.mono B4.out.size)))
        clear HDt HS4
        go_wp2_with fail
        refine HD5.out.mono ?_
        rintro e w6 ⟨rfl, hb6⟩
        have B6 := Lib.hid (B5.out.trans (hb6.mono B5.out.size))
        go_wp2_with fail
        go_roundw
        case rel => exact ⟨i + 1, by go_num, by omega, by have h8 := hos.out; have h9 := HSZ.out; rw [HSZ.out, IntWalk.wrap64_in _ (by omega)]; congr 1; omega, by rw [HDP.out, HMX.out], B6⟩
        case measure => simp [intOf]; omega
      · obtain rfl : i = l.length := by omega
        have HKn := HKi.out wr (l.length : Int) HB.out
        rw [HJ.out.none] at HKn
        simp only [outOf, codeO, Option.getD_none, Option.isSome_none, List.length_nil, Bool.false_eq_true, if_false] at HKn
        have HKn2 := Lib.hid HKn
        clear HKn HKi
        rw [List.take_of_length_le (Nat.le_refl _)] at *
        have e1 : (out.length : Int) = ((1 + sizeOfT l : Nat) : Int) := by have := hos.out; omega
        have e2 : ((deepN out : Nat) : Int) = ((deepest l : Nat) : Int) + 1 := by have := hod.out; omega
        rw [e2] at HDe
        rw [HJ.out.right] at HRi
        go_wp2_with fail
        refine HKn2.out.mono ?_
        rintro e w4 ⟨A4, c4, rfl, -, -, hb4⟩
        have B4 := Lib.hid (HB.out.trans (hb4.mono HB.out.size))
        have HR4 := Lib.hid (HRi.out w4 B4.out)
        clear HRi HKn2
        go_wp2_with fail
        refine HR4.out.mono ?_
        rintro e w5 ⟨rfl, hb5⟩
        have B5 := Lib.hid (B4.out.trans (hb5.mono B4.out.size))
        have HD5 := Lib.hid (HDe.out w5 B5.out)
        clear HDe HR4
        go_wp2_with fail
        refine HD5.out.mono ?_
        rintro e w6 ⟨rfl, hb6⟩
        have B6 := Lib.hid (B5.out.trans (hb6.mono B5.out.size))
        go_wp2_with fail
        go_ret
        exact ⟨rfl, B3.out.trans (B6.out.mono B3.out.size)⟩
end Go.Proofs.YtbcgdkhkljeomaaDoor
