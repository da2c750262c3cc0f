/-
  The law FrameCuts: true.
-/
import Derived.Test.YtjlehlkkgkplmaaDoorProg
import Derived.Test.YtjlehlkkgkplmaaDoorReg
import Derived.WalkKit
import Derived.WalkSpells
import Derived.WalkLawsBesides
import Derived.Lib.Hide
import Derived.Lib.MinMax
import Derived.Deep.QuietTactic
import Derived.BigQuiet
import Derived.OwnWalk
import Derived.Deep.AppendLies
import Derived.KernelRfl
import Derived.Test.YtjlehlkkgkplmaaDoorFr2
set_option linter.unusedSimpArgs false
set_option linter.unusedVariables false
namespace Go.Proofs.YtjlehlkkgkplmaaDoor
open Go Go.RowKit

set_option maxRecDepth 100000 in
set_option maxHeartbeats 16000000 in
theorem frameCuts_any (A : Option Addr) (c : Nat) (l : List ByteArray) (a : Addr) (w : World) (hl : l.length ≤ maxLen) (hs : ∀ (k : Nat) (x : ByteArray), l[k]? = some x → x.size ≤ maxLen) (hH : HoldsS w A l) (hL : LaidF a w) :
    Calls Tryd.prog 5 #[.slice A l.length c] w fun e w' => e = .returned (.bool true) ∧ Below w.heap.size w w' := by
  have HS := Lib.hid (shown_any a w hL)
  have HF := Lib.hid (fun W (hb : Below w.heap.size w W) => Few_any 30 A c l W (by omega) hl hs (hH.below hb))
  have hlen := few400_len l 30
  have hsz := few400_size l 30
  generalize few400 l 30 = L at *
  have HSz := Lib.hid hsz
  clear hs hH hl hsz
  go_enter Tryd.func5, Tryd.ntmps5
  go_wp2_with fail
  refine HS.out.mono ?_
  rintro e w1 ⟨rfl, hb1⟩
  have B1 := Lib.hid hb1
  have HFw := Lib.hid (HF.out w1 hb1)
  clear hb1 HS HF
  go_wp2_with fail
  refine HFw.out.mono ?_
  rintro e w2 ⟨v2, rfl, ho2, hb2⟩
  have B2 := Lib.hid (B1.out.trans (hb2.mono B1.out.size))
  obtain ⟨D, dc, rfl⟩ := owns_slice ho2
  have HO2 := Lib.hid ho2
  have HNe := Lib.hid (fun X (hX : w2.heap.size ≤ X) => (fun e => by have := ownBlock_lt ho2 X e; omega : (Value.slice D L.length dc).ownBlock ≠ some X))
  clear hb2 HFw ho2
  have HN := Lib.hid (New_rd a w2)
  go_wp2_with fail
  refine HN.out.mono ?_
  rintro e w3 ⟨rfl, hr3, hb3⟩
  have HB3 := Lib.hid (B2.out.trans (hb3.mono B2.out.size))
  have HRD := Lib.hid hr3
  have lX : w2.heap.size < w3.heap.size := (Array.getElem?_eq_some_iff.1 (show w3.heap[w2.heap.size]? = _ from hr3)).1
  have HO3 := Lib.hid (own_below HO2.out hb3)
  have hXw : w.heap.size ≤ w2.heap.size := B2.out.size
  have hB3 : w.heap.size ≤ w3.heap.size := HB3.out.size
  clear hb3 hr3 HN
  go_upto_region 8 with fail
  generalize w2.heap.size = X at *
  generalize h3 : w3.heap.size = base at *
  have HBase := Lib.hid h3
  clear h3
  have hz0 : splitB (⟨#[]⟩ : ByteArray) = ([], ⟨#[]⟩, false) := by decide +kernel
  have HZ0 := Lib.hid hz0
  clear hz0
  go_loopw [5, 6, 7, 8] (fun sv av ev i wr => ∃ (k : Nat) (s t : ByteArray) (bs : List ByteArray) (bad : Bool) (z : Int), i = .int .i64 k ∧ sv = .string s ∧ ev = .int .i64 z ∧ k ≤ L.length ∧ Hid (z = numB bad) ∧ Hid (splitB s = (bs, t, bad)) ∧ Hid (IsRd wr X a t bad) ∧ Hid (wr.ownsRow base sK 1 av bs.length (strCells bs)) ∧
    Hid (wr.ownsRow w1.heap.size sK 1 (.slice D L.length dc) L.length (strCells L)) ∧ Hid (Below w.heap.size w wr) ∧ Hid (base ≤ wr.heap.size) ∧ s.size ≤ 400 * k) (fun _ _ _ i _ => L.length - (intOf i).toNat)
  case atStart => exact ⟨0, ⟨#[]⟩, ⟨#[]⟩, [], false, 0, rfl, rfl, rfl, by omega, Lib.hid rfl, HZ0, HRD, Lib.hid (World.ownsRow_nil _ _ _ _), HO3, HB3, Lib.hid (by rw [HBase.out]; exact Nat.le_refl _), by decide⟩
  case round =>
    obtain ⟨k, s, t, bs, bad, z, rfl, rfl, rfl, hk, HZ, HP, HX, HA, HO, HB, HBs, hss⟩ := hrel
    have i0 : (0 : Int) ≤ (k : Int) := by omega
    have hlenb := splitB_len s
    have hrest := (splitB_rest s).2.2
    rw [HP.out] at hlenb hrest
    simp only at hlenb hrest
    obtain ⟨Aa, ca, rfl⟩ := owns_slice HA.out
    by_cases hlt : k < L.length
    · have i1 : (k : Int) < (L.length : Int) := by omega
      have hx := List.getElem?_eq_getElem hlt
      have hxs := HSz.out _ (List.getElem_mem hlt)
      obtain ⟨A2, c2, e2, -, hH2, -⟩ := holdsS_of_own HO.out
      cases e2
      obtain ⟨b, off, rfl, c1⟩ := hH2 k L[k] hx
      generalize L[k] = x at *
      have HXk := Lib.hid hx
      have happ := splitB_app s x
      have hsx := ByteArray.size_append (a := s) (b := x)
      have nb : ¬ 9223372036854775807 < s.size + x.size := by omega
      have nb2 : ¬ (9223372036854775807 : Int) < (s.size : Int) + (x.size : Int) := by omega
      rw [HP.out] at happ
      simp only at happ
      clear hx hH2
      cases bad with
      | true =>
        rw [if_pos rfl] at happ
        have HPn := Lib.hid happ
        have HF1 := Lib.hid (Feed_bad X a t x wr HX.out (hL.below HB.out))
        have q1 : (z != 0) = true := by rw [HZ.out]; rfl
        have q2 : ((160 : Int) != z) = false := by rw [HZ.out]; rfl
        have hsx2 : (s ++ x).size ≤ 400 * (k + 1) := by omega
        have HSx := Lib.hid hsx2
        clear happ hsx hsx2
        obtain ⟨v6, w6, hrun, hown6, hg6⟩ := run_append_strs base wr _ _ _ HA.out none 0 [] (HoldsS.nil _ _) (by omega) (by simp) HBs.out
        have hge := ownBlock_ge HA.out
        have HA6 : Hid (w6.ownsRow base sK 1 v6 bs.length (strCells bs)) := Lib.hid (by simpa [strCells] using hown6)
        have hO6 := own_two HO.out hg6 (fun g e => HNe.out g (by have := hge g e; omega))
        have HX6 := Lib.hid (rd_own HX.out hg6 (fun g e => by have := hge g e; omega))
        have HB6 := Lib.hid (HB.out.grown hg6 HB.out.size (fun g e => by have := hge g e; omega))
        have HBs6 := Lib.hid (Nat.le_trans HBs.out hg6.size)
        obtain ⟨A3, c3, e3, -, hH3, -⟩ := holdsS_of_own hO6
        cases e3
        obtain ⟨b3, off3, e4, d1⟩ := hH3 k x HXk.out
        cases e4
        have HO6 := Lib.hid hO6
        obtain ⟨A6, c6, rfl⟩ := owns_slice HA6.out
        clear hown6 hg6 hge hO6 hH3
        go_wp2_with fail
        refine HF1.out.mono ?_
        rintro e w5 ⟨rfl, rfl⟩
        go_wp2_with (at_builtin; go_must (refine wpList_append_run rfl _ _ 27 27 rfl rfl rfl hrun ?_))
        go_roundw
        case rel => exact ⟨k + 1, s ++ x, t, bs, true, _, by go_num, rfl, rfl, by omega, Lib.hid rfl, HPn, HX6, HA6, HO6, HB6, HBs6, HSx.out⟩
        case measure => simp [intOf]; omega
      | false =>
        rw [if_neg (by decide)] at happ
        have hlnx := splitB_len (t ++ x)
        rw [ByteArray.size_append] at hlnx
        have HF1 := Lib.hid (Feed_any X a t x w wr (by omega) HX.out hL HB.out hXw)
        have q1 : (z != 0) = false := by rw [HZ.out]; rfl
        have hsx2 : (s ++ x).size ≤ 400 * (k + 1) := by omega
        have HSx := Lib.hid hsx2
        generalize splitB (t ++ x) = P at *
        obtain ⟨bs2, rest, bad2⟩ := P
        simp only at happ hlnx HF1
        have HPn := Lib.hid happ
        clear happ hsx hsx2
        go_wp2_with fail
        refine HF1.out.mono ?_
        rintro e w5 ⟨v5, rfl, ho5, hg5, hx5⟩
        have hA5 := own_far HA.out hg5 (by omega)
        have hO5 := HO.out.kept hg5 (Or.inr (HNe.out X (Nat.le_refl _)))
        have hB5 := below_grownX HB.out hg5 HB.out.size hXw
        have hs5 := hg5.size
        have hbs5 := Nat.le_trans HBs.out hs5
        obtain ⟨A5, c5, rfl, -, hH5, -⟩ := holdsS_of_own ho5
        obtain ⟨v6, w6, hrun, hown6, hg6⟩ := run_append_strs base w5 _ _ _ hA5 A5 c5 bs2 hH5 (by omega) (by omega) hbs5
        have hge := ownBlock_ge hA5
        have HA6 : Hid (w6.ownsRow base sK 1 v6 (bs ++ bs2).length (strCells (bs ++ bs2))) := Lib.hid (by rw [List.length_append, strCells_append]; exact hown6)
        have hO6 := own_two hO5 hg6 (fun g e => HNe.out g (by have := hge g e; omega))
        have HX6 := Lib.hid (rd_own (show IsRd w5 X a rest bad2 from hx5) hg6 (fun g e => by have := hge g e; omega))
        have HB6 := Lib.hid (hB5.grown hg6 hB5.size (fun g e => by have := hge g e; omega))
        have HBs6 := Lib.hid (Nat.le_trans hbs5 hg6.size)
        obtain ⟨A3, c3, e3, -, hH3, -⟩ := holdsS_of_own hO6
        cases e3
        obtain ⟨b3, off3, e4, d1⟩ := hH3 k x HXk.out
        cases e4
        have HO6 := Lib.hid hO6
        obtain ⟨A6, c6, rfl⟩ := owns_slice HA6.out
        clear hown6 hg6 hge hO6 hH3 hA5 hO5 hB5 hH5 ho5 hg5 hx5 c1 HF1 hlnx
        go_wp2_with (at_builtin; go_must (refine wpList_append_run rfl _ _ 27 27 rfl rfl rfl hrun ?_))
        go_roundw
        case rel => exact ⟨k + 1, s ++ x, rest, bs ++ bs2, bad2, _, by go_num, rfl, rfl, by omega, Lib.hid rfl, HPn, HX6, Lib.hid (by have h := HA6.out; simp only [List.length_append] at h ⊢; exact h), HO6, HB6, HBs6, HSx.out⟩
        case measure => simp [intOf]; omega
    · have i1 : ¬ (k : Int) < (L.length : Int) := by omega
      have hU := Split_any s a wr (by omega) (hL.below HB.out)
      rw [HP.out] at hU
      have HU := Lib.hid hU
      have q1 : (z == numB bad) = true := by rw [HZ.out]; simp
      clear hU
      go_wp2_with fail
      refine HU.out.mono ?_
      rintro e w9 ⟨v9, rfl, ho9, hb9⟩
      have B9 := Lib.hid (HB.out.trans (hb9.mono HB.out.size))
      have hA9 := own_below HA.out hb9
      have HX9 := Lib.hid (HX.out.below hb9)
      obtain ⟨A1, c1, e1, -, hH1, -⟩ := holdsS_of_own hA9
      cases e1
      obtain ⟨A8, c8, rfl, -, hH2, -⟩ := holdsS_of_own ho9
      have HT := Lib.hid (Texts_any bs bs Aa A8 ca c8 w9 (by omega) (by omega) hH1 hH2)
      have hdec : decide (bs = bs) = true := by simp
      rw [hdec] at HT
      clear hdec hA9 ho9 hb9 hH1 hH2 HU
      go_wp2_with fail
      refine HT.out.mono ?_
      rintro e w10 ⟨rfl, hb10⟩
      have B10 := Lib.hid (B9.out.trans (hb10.mono B9.out.size))
      have HLf := Lib.hid (Left_rd X a t bad w10 (by omega) (HX9.out.below hb10))
      clear hb10
      go_wp2_with fail
      refine HLf.out.mono ?_
      rintro e w11 ⟨rfl, rfl⟩
      go_wp2_with fail
      go_ret
      exact ⟨rfl, B10.out⟩
end Go.Proofs.YtjlehlkkgkplmaaDoor
