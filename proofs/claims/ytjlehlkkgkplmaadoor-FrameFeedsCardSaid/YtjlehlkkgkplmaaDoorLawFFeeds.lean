/-
  The law FrameFeeds: true.
-/
import Derived.Test.YtjlehlkkgkplmaaDoorProg
import Derived.Test.YtjlehlkkgkplmaaDoorReg
import Derived.WalkKit
import Derived.WalkSpells
import Derived.WalkLawsBesides
import Derived.Lib.Hide
import Derived.Lib.MinMax
import Derived.Deep.QuietTactic
import Derived.BigQuiet
import Derived.OwnWalk
import Derived.Deep.AppendLies
import Derived.KernelRfl
import Derived.Test.YtjlehlkkgkplmaaDoorFr2
set_option linter.unusedSimpArgs false
set_option linter.unusedVariables false
namespace Go.Proofs.YtjlehlkkgkplmaaDoor
open Go Go.RowKit

set_option maxRecDepth 100000 in
set_option maxHeartbeats 16000000 in
theorem frameFeeds_any (A : Option Addr) (c : Nat) (l : List ByteArray) (a : Addr) (w : World) (hl : l.length ≤ maxLen) (hs : ∀ (k : Nat) (x : ByteArray), l[k]? = some x → x.size ≤ maxLen) (hH : HoldsS w A l) (hL : LaidF a w) :
    Calls Tryd.prog 4 #[.slice A l.length c] w fun e w' => e = .returned (.bool true) ∧ Below w.heap.size w w' := by
  have HS := Lib.hid (shown_any a w hL)
  have HF := Lib.hid (fun W (hb : Below w.heap.size w W) => Few_any 30 A c l W (by omega) hl hs (hH.below hb))
  have hlen := few400_len l 30
  have hsz := few400_size l 30
  generalize few400 l 30 = L at *
  have HSz := Lib.hid hsz
  clear hs hH hl hsz
  go_enter Tryd.func4, Tryd.ntmps4
  go_wp2_with fail
  refine HS.out.mono ?_
  rintro e w1 ⟨rfl, hb1⟩
  have B1 := Lib.hid hb1
  have HFw := Lib.hid (HF.out w1 hb1)
  clear hb1 HS HF
  go_wp2_with fail
  refine HFw.out.mono ?_
  rintro e w2 ⟨v2, rfl, ho2, hb2⟩
  have B2 := Lib.hid (B1.out.trans (hb2.mono B1.out.size))
  obtain ⟨D, dc, rfl⟩ := owns_slice ho2
  have HO2 := Lib.hid ho2
  have HNe := Lib.hid (fun X (hX : w2.heap.size ≤ X) => (fun e => by have := ownBlock_lt ho2 X e; omega : (Value.slice D L.length dc).ownBlock ≠ some X))
  clear hb2 HFw ho2
  have HN := Lib.hid (New_rd a w2)
  go_wp2_with fail
  refine HN.out.mono ?_
  rintro e w3 ⟨rfl, hr3, hb3⟩
  have B3 := Lib.hid (B2.out.trans (hb3.mono B2.out.size))
  have hz3 := hr3
  have lX : w2.heap.size < w3.heap.size := (Array.getElem?_eq_some_iff.1 hz3).1
  have hbA := below_new w3 (.cells #[.string ⟨#[]⟩, .bool false] 37)
  have hrr : IsRR (w3.alloc (.cells #[.string ⟨#[]⟩, .bool false] 37)) w3.heap.size ⟨#[]⟩ false := heap_alloc_new w3 _
  have hrd := hr3.below hbA
  have ho3 := own_below (own_below HO2.out hb3) hbA
  have B4 := B3.out.trans (hbA.mono B3.out.size)
  obtain ⟨W4, hW4⟩ : ∃ W4, w3.alloc (.cells #[.string ⟨#[]⟩, .bool false] 37) = W4 := ⟨_, rfl⟩
  rw [hW4] at hrr hrd ho3 B4
  have HRR := Lib.hid hrr
  have HRD := Lib.hid hrd
  have HO4 := Lib.hid ho3
  have HB4 := Lib.hid B4
  have HW4 := Lib.hid hW4
  have lw2 := B2.out.size
  have hXw : w.heap.size ≤ w2.heap.size := B2.out.size
  clear hbA hrr hrd ho3 B4 hb3 hr3 hz3 HN hW4
  go_upto_region 5 with fail
  rw [HW4.out]
  generalize w2.heap.size = X at *
  generalize w3.heap.size = Y at *
  go_wp2_with fail
  go_loopw [6] (fun i wr => ∃ (k : Nat) (t : ByteArray) (bad : Bool), i = .int .i64 k ∧ k ≤ L.length ∧ Hid (IsRd wr X a t bad) ∧ Hid (IsRR wr Y t bad) ∧ Hid (wr.ownsRow w1.heap.size sK 1 (.slice D L.length dc) L.length (strCells L)) ∧ Hid (Below w.heap.size w wr) ∧ t.size ≤ 10000) (fun i _ => L.length - (intOf i).toNat)
  case atStart => exact ⟨0, ⟨#[]⟩, false, rfl, by omega, HRD, HRR, HO4, HB4, by decide⟩
  case round =>
    obtain ⟨k, t, bad, rfl, hk, HX, HY, HO, HB, ht⟩ := hrel
    have i0 : (0 : Int) ≤ (k : Int) := by omega
    by_cases hlt : k < L.length
    · have i1 : (k : Int) < (L.length : Int) := by omega
      have hx := List.getElem?_eq_getElem hlt
      have hxs := HSz.out _ (List.getElem_mem hlt)
      obtain ⟨A2, c2, e2, -, hH2, -⟩ := holdsS_of_own HO.out
      cases e2
      obtain ⟨b, off, rfl, c1⟩ := hH2 k L[k] hx
      generalize L[k] = x at *
      have HXk := Lib.hid hx
      clear hx hH2
      cases bad with
      | true =>
        have HF1 := Lib.hid (Feed_bad X a t x wr HX.out (hL.below HB.out))
        have HF2 := Lib.hid (RFeed_bad Y t x wr HY.out)
        have HL1 := Lib.hid (Left_rd X a t true wr (by omega) HX.out)
        have HL2 := Lib.hid (RLeft_any Y t true wr (by omega) HY.out)
        have HT := Lib.hid (Texts_any [] [] none none 0 0 wr (by simp) (by simp) (HoldsS.nil _ _) (HoldsS.nil _ _))
        have hdec : decide (([] : List ByteArray) = []) = true := by simp
        rw [hdec] at HT
        clear hdec
        go_wp2_with fail
        refine HF1.out.mono ?_
        rintro e w5 ⟨rfl, rfl⟩
        go_wp2_with fail
        refine HF2.out.mono ?_
        rintro e w6 ⟨rfl, rfl⟩
        go_wp2_with fail
        refine HT.out.mono ?_
        rintro e w7 ⟨rfl, hb7⟩
        have HX7 := Lib.hid (HX.out.below hb7)
        have HY7 := Lib.hid (HY.out.below hb7)
        have HO7 := Lib.hid (own_below HO.out hb7)
        have HB7 := Lib.hid (HB.out.trans (hb7.mono HB.out.size))
        have HL1 := Lib.hid (Left_rd X a t true w7 (by omega) HX7.out)
        have HL2 := Lib.hid (RLeft_any Y t true w7 (by omega) HY7.out)
        clear hb7
        go_wp2_with fail
        refine HL1.out.mono ?_
        rintro e w8 ⟨rfl, rfl⟩
        go_wp2_with fail
        refine HL2.out.mono ?_
        rintro e w9 ⟨rfl, rfl⟩
        go_wp2_with fail
        go_roundw
        case rel => exact ⟨k + 1, t, true, by go_num, by omega, HX7, HY7, HO7, HB7, ht⟩
        case measure => simp [intOf]; omega
      | false =>
        have hres := splitB_rest (t ++ x)
        have hln := splitB_len (t ++ x)
        rw [ByteArray.size_append] at hln
        have HF1 := Lib.hid (Feed_any X a t x w wr (by omega) HX.out hL HB.out hXw)
        have HF2 := Lib.hid (fun W (hy : IsRR W Y t false) => RFeed_any Y t x W (by omega) hy)
        generalize splitB (t ++ x) = P at *
        obtain ⟨bs, rest, bad⟩ := P
        obtain ⟨-, -, hrs⟩ := hres
        simp only at hrs hln HF1 HF2
        have lXr : X < wr.heap.size := (Array.getElem?_eq_some_iff.1 (show wr.heap[X]? = _ from HX.out)).1
        have lYr : Y < wr.heap.size := HY.out.lt
        go_wp2_with fail
        refine HF1.out.mono ?_
        rintro e w5 ⟨v5, rfl, ho5, hg5, hx5⟩
        have HX5 := Lib.hid hx5
        have HY5 := Lib.hid (rr_far HY.out hg5 (by omega))
        have HO5 := Lib.hid (HO.out.kept hg5 (Or.inr (HNe.out X (Nat.le_refl _))))
        have HB5 := Lib.hid (below_grownX HB.out hg5 HB.out.size hXw)
        have HQ5 := Lib.hid ho5
        have hs5 := hg5.size
        have HF2w := Lib.hid (HF2.out w5 HY5.out)
        obtain ⟨A5, c5, rfl⟩ := owns_slice ho5
        obtain ⟨A3, c3, e3, -, hH3, -⟩ := holdsS_of_own HO5.out
        cases e3
        obtain ⟨b3, off3, e4, d1⟩ := hH3 k x HXk.out
        cases e4
        clear hx5 ho5 hg5 HF1 HF2 hH3 c1
        go_wp2_with fail
        refine HF2w.out.mono ?_
        rintro e w6 ⟨v6, rfl, ho6, hg6, hy6⟩
        have HX6 := Lib.hid (rd_far HX5.out hg6 (by omega))
        have HY6 := Lib.hid hy6
        have HO6 := Lib.hid (HO5.out.kept hg6 (Or.inr (HNe.out Y (by omega))))
        have HB6 := Lib.hid (below_grownX HB5.out hg6 HB5.out.size (by omega))
        have ho5 := own_far HQ5.out hg6 (by omega)
        obtain ⟨A7, c7, e7, -, hH7, -⟩ := holdsS_of_own ho5
        cases e7
        obtain ⟨A8, c8, rfl, -, hH8, -⟩ := holdsS_of_own ho6
        have HT := Lib.hid (Texts_any bs bs A5 A8 c5 c8 w6 (by omega) (by omega) hH7 hH8)
        have hdec : decide (bs = bs) = true := by simp
        rw [hdec] at HT
        clear hdec ho5 ho6 hg6 hy6 HF2w hH7 hH8 d1 hln
        go_wp2_with fail
        refine HT.out.mono ?_
        rintro e w7 ⟨rfl, hb7⟩
        have HX7 := Lib.hid (HX6.out.below hb7)
        have HY7 := Lib.hid (HY6.out.below hb7)
        have HO7 := Lib.hid (own_below HO6.out hb7)
        have HB7 := Lib.hid (HB6.out.trans (hb7.mono HB6.out.size))
        have HL1 := Lib.hid (Left_rd X a rest bad w7 (by omega) HX7.out)
        have HL2 := Lib.hid (RLeft_any Y rest bad w7 (by omega) HY7.out)
        clear hb7
        go_wp2_with fail
        refine HL1.out.mono ?_
        rintro e w8 ⟨rfl, rfl⟩
        go_wp2_with fail
        refine HL2.out.mono ?_
        rintro e w9 ⟨rfl, rfl⟩
        go_wp2_with fail
        go_roundw
        case rel => exact ⟨k + 1, rest, bad, by go_num, by omega, HX7, HY7, HO7, HB7, by omega⟩
        case measure => simp [intOf]; omega
    · have i1 : ¬ (k : Int) < (L.length : Int) := by omega
      go_wp2_with fail
      go_ret
      exact ⟨rfl, HB.out⟩
end Go.Proofs.YtjlehlkkgkplmaaDoor
