/-
  The law FrameLefts: true.
-/
import Derived.Test.YtjlehlkkgkplmabDoorProg
import Derived.Test.YtjlehlkkgkplmabDoorReg
import Derived.WalkKit
import Derived.WalkSpells
import Derived.WalkLawsBesides
import Derived.Lib.Hide
import Derived.Lib.MinMax
import Derived.Deep.QuietTactic
import Derived.BigQuiet
import Derived.OwnWalk
import Derived.Deep.AppendLies
import Derived.KernelRfl
import Derived.Test.YtjlehlkkgkplmabDoorFr2
set_option linter.unusedSimpArgs false
set_option linter.unusedVariables false
namespace Go.Proofs.YtjlehlkkgkplmabDoor
open Go Go.RowKit

set_option maxRecDepth 100000 in
set_option maxHeartbeats 16000000 in
theorem frameLefts_any (A : Option Addr) (c : Nat) (l : List ByteArray) (a : Addr) (w : World) (hl : l.length ≤ maxLen) (hs : ∀ (k : Nat) (x : ByteArray), l[k]? = some x → x.size ≤ maxLen) (hH : HoldsS w A l) (hL : LaidF a w) :
    Calls Tryd.prog 3 #[.slice A l.length c] w fun e w' => e = .returned (.bool true) ∧ Below w.heap.size w w' := by
  have HS := Lib.hid (shown_any a w hL)
  have HF := Lib.hid (fun W (hb : Below w.heap.size w W) => Few_any 30 A c l W (by omega) hl hs (hH.below hb))
  have hlen := few400_len l 30
  have hsz := few400_size l 30
  generalize few400 l 30 = L at *
  have HSz := Lib.hid hsz
  clear hs hH hl hsz
  go_enter Tryd.func3, Tryd.ntmps3
  go_wp2_with fail
  refine HS.out.mono ?_
  rintro e w1 ⟨rfl, hb1⟩
  have B1 := Lib.hid hb1
  have HFw := Lib.hid (HF.out w1 hb1)
  clear hb1 HS HF
  go_wp2_with fail
  refine HFw.out.mono ?_
  rintro e w2 ⟨v2, rfl, ho2, hb2⟩
  have B2 := Lib.hid (B1.out.trans (hb2.mono B1.out.size))
  obtain ⟨D, dc, rfl⟩ := owns_slice ho2
  have HO2 := Lib.hid ho2
  have HNe := Lib.hid (fun X (hX : w2.heap.size ≤ X) => (fun e => by have := ownBlock_lt ho2 X e; omega : (Value.slice D L.length dc).ownBlock ≠ some X))
  clear hb2 HFw ho2
  have HN := Lib.hid (New_rd a w2)
  go_wp2_with fail
  refine HN.out.mono ?_
  rintro e w3 ⟨rfl, hr3, hb3⟩
  have HB3 := Lib.hid (B2.out.trans (hb3.mono B2.out.size))
  have HRD := Lib.hid hr3
  have HO3 := Lib.hid (own_below HO2.out hb3)
  have hXw : w.heap.size ≤ w2.heap.size := B2.out.size
  clear hb3 hr3 HN
  go_wp2_with fail
  generalize w2.heap.size = X at *
  go_loopw [5] (fun i wr => ∃ (k : Nat) (t : ByteArray) (bad : Bool), i = .int .i64 k ∧ k ≤ L.length ∧ Hid (IsRd wr X a t bad) ∧ Hid (bad = true → t = ⟨#[]⟩) ∧ Hid (wr.ownsRow w1.heap.size sK 1 (.slice D L.length dc) L.length (strCells L)) ∧ Hid (Below w.heap.size w wr) ∧ t.size ≤ 9100) (fun i _ => L.length - (intOf i).toNat)
  case atStart => exact ⟨0, ⟨#[]⟩, false, rfl, by omega, HRD, Lib.hid (fun h => by cases h), HO3, HB3, by decide⟩
  case round =>
    obtain ⟨k, t, bad, rfl, hk, HX, HT0, HO, HB, ht⟩ := hrel
    have i0 : (0 : Int) ≤ (k : Int) := by omega
    by_cases hlt : k < L.length
    · have i1 : (k : Int) < (L.length : Int) := by omega
      have hx := List.getElem?_eq_getElem hlt
      have hxs := HSz.out _ (List.getElem_mem hlt)
      obtain ⟨A2, c2, e2, -, hH2, -⟩ := holdsS_of_own HO.out
      cases e2
      obtain ⟨b, off, rfl, c1⟩ := hH2 k L[k] hx
      generalize L[k] = x at *
      clear hx hH2
      cases bad with
      | true =>
        obtain rfl := HT0.out rfl
        have HF1 := Lib.hid (Feed_bad X a ⟨#[]⟩ x wr HX.out (hL.below HB.out))
        have HF2 := Lib.hid (Feed_bad X a ⟨#[]⟩ ⟨#[]⟩ wr HX.out (hL.below HB.out))
        have HL1 := Lib.hid (Left_rd X a ⟨#[]⟩ true wr (by decide) HX.out)
        go_wp2_with fail
        refine HF1.out.mono ?_
        rintro e w5 ⟨rfl, rfl⟩
        go_wp2_with fail
        refine HL1.out.mono ?_
        rintro e w6 ⟨rfl, rfl⟩
        go_wp2_with fail
        refine HF2.out.mono ?_
        rintro e w7 ⟨rfl, rfl⟩
        go_wp2_with fail
        refine HL1.out.mono ?_
        rintro e w8 ⟨rfl, rfl⟩
        go_wp2_with fail
        go_roundw
        case rel => exact ⟨k + 1, _, true, by go_num, by omega, HX, Lib.hid (fun _ => rfl), HO, HB, by decide⟩
        case measure => simp [intOf]; omega
      | false =>
        obtain ⟨hr1, hr2, hr3⟩ := splitB_rest (t ++ x)
        have HF1 := Lib.hid (Feed_any X a t x w wr (by omega) HX.out hL HB.out hXw)
        generalize splitB (t ++ x) = P at *
        obtain ⟨bs, rest, bad⟩ := P
        simp only at hr1 hr2 hr3 HF1
        cases bad with
        | true =>
          obtain rfl := hr1 rfl
          clear hr1 hr2 hr3
          go_wp2_with fail
          refine HF1.out.mono ?_
          rintro e w5 ⟨v5, rfl, ho5, hg5, hx5⟩
          have HX5 := Lib.hid hx5
          have HO5 := Lib.hid (HO.out.kept hg5 (Or.inr (HNe.out X (Nat.le_refl _))))
          have HB5 := Lib.hid (below_grownX HB.out hg5 HB.out.size hXw)
          obtain ⟨A5, c5, rfl⟩ := owns_slice ho5
          have HF2 := Lib.hid (Feed_bad X a ⟨#[]⟩ ⟨#[]⟩ w5 HX5.out (hL.below HB5.out))
          have HL1 := Lib.hid (Left_rd X a ⟨#[]⟩ true w5 (by decide) HX5.out)
          clear hx5 ho5 hg5 HF1
          unfold numB
          go_wp2_with fail
          refine HL1.out.mono ?_
          rintro e w6 ⟨rfl, rfl⟩
          go_wp2_with fail
          refine HF2.out.mono ?_
          rintro e w7 ⟨rfl, rfl⟩
          go_wp2_with fail
          refine HL1.out.mono ?_
          rintro e w8 ⟨rfl, rfl⟩
          go_wp2_with fail
          go_roundw
          case rel => exact ⟨k + 1, _, true, by go_num, by omega, HX5, Lib.hid (fun _ => rfl), HO5, HB5, by decide⟩
          case measure => simp [intOf]; omega
        | false =>
          have hmo := splitB_more (hr2 rfl)
          have hemp : rest ++ (⟨#[]⟩ : ByteArray) = rest := text_inj (by rw [ByteArray.data_append, Array.toList_append]; simp)
          clear hr1 hr2
          go_wp2_with fail
          refine HF1.out.mono ?_
          rintro e w5 ⟨v5, rfl, ho5, hg5, hx5⟩
          have HO5 := Lib.hid (HO.out.kept hg5 (Or.inr (HNe.out X (Nat.le_refl _))))
          have HB5 := Lib.hid (below_grownX HB.out hg5 HB.out.size hXw)
          have HX5 := Lib.hid hx5
          obtain ⟨A5, c5, rfl⟩ := owns_slice ho5
          have hF2 := Feed_any X a rest ⟨#[]⟩ w w5 (by show rest.size + 0 ≤ _; omega) hx5 hL HB5.out hXw
          rw [hemp, hmo] at hF2
          have HF2 := Lib.hid hF2
          have HL1 := Lib.hid (Left_rd X a rest false w5 (by omega) hx5)
          have q0 : ¬ (9100 : Int) < (rest.size : Int) := by omega
          clear hx5 ho5 hg5 HF1 hF2 hmo hemp
          unfold numB
          go_wp2_with fail
          refine HL1.out.mono ?_
          rintro e w6 ⟨rfl, rfl⟩
          go_wp2_with fail
          refine HF2.out.mono ?_
          rintro e w7 ⟨v7, rfl, ho7, hg7, hx7⟩
          have HO7 := Lib.hid (HO5.out.kept hg7 (Or.inr (HNe.out X (Nat.le_refl _))))
          have HB7 := Lib.hid (below_grownX HB5.out hg7 HB5.out.size hXw)
          have HX7 := Lib.hid hx7
          obtain ⟨A7, c7, rfl⟩ := owns_slice ho7
          have HL2 := Lib.hid (Left_rd X a rest false w7 (by omega) hx7)
          clear hx7 ho7 hg7 HF2
          unfold numB
          go_wp2_with fail
          refine HL2.out.mono ?_
          rintro e w8 ⟨rfl, rfl⟩
          go_wp2_with fail
          go_roundw
          case rel => exact ⟨k + 1, rest, false, by go_num, by omega, HX7, Lib.hid (fun h => by cases h), HO7, HB7, hr3⟩
          case measure => simp [intOf]; omega
    · have i1 : ¬ (k : Int) < (L.length : Int) := by omega
      go_wp2_with fail
      go_ret
      exact ⟨rfl, HB.out⟩
end Go.Proofs.YtjlehlkkgkplmabDoor
