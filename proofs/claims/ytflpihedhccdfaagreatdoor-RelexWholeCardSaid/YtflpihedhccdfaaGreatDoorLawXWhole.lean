/-
  The law RelexWhole: true.
-/
import Derived.Test.YtflpihedhccdfaaGreatDoorProg
import Derived.Test.YtflpihedhccdfaaGreatDoorReg
import Derived.WalkKit
import Derived.WalkSpells
import Derived.WalkLawsBesides
import Derived.Lib.Hide
import Derived.Lib.MinMax
import Derived.Deep.QuietTactic
import Derived.BigQuiet
import Derived.OwnWalk
import Derived.Deep.AppendLies
import Derived.KernelRfl
import Derived.Test.YtflpihedhccdfaaGreatDoorRw7
set_option linter.unusedSimpArgs false
set_option linter.unusedVariables false
namespace Go.Proofs.YtflpihedhccdfaaGreatDoor
open Go Go.RowKit

theorem tokens_textOf (t : ByteArray) : textOf (tokensS t) = t := tokens_text t

set_option maxRecDepth 100000 in
set_option maxHeartbeats 8000000 in
theorem relexWhole_any (s : ByteArray) (l : List Act5) (A : Option Addr) (c : Nat) (a d : Addr) (w : World) (hs : s.size ≤ maxLen) (hl : l.length ≤ maxLen)
    (hsz : ∀ (k : Nat) (x : Act5), l[k]? = some x → x.s.size ≤ maxLen ∧ (-9223372036854775808 ≤ x.n ∧ x.n ≤ 9223372036854775807)) (hh : HoldsC w A l) (hT : Tabs w) (hL : Laid5 a d w) :
    Calls Tryz.prog 6 #[.string s, .slice A l.length c] w fun e w' => e = .returned (.bool true) ∧ Below w.heap.size w w' := by
  have HS := Lib.hid (shown_any a d w hT hL)
  have HC := Lib.hid (fun u => Cut_any s u hs)
  have hcs := cut4010_size s
  generalize cut4010 s = s0 at *
  by_cases hbig : 4000 < s0.size
  · have HN := Lib.hid (fun W (hb : Below w.heap.size w W) => New_full s0 a d W hbig (by unfold maxLen; omega) (hL.below hb))
    clear hT hL hs hsz hh hl
    go_enter Tryz.func6, Tryz.ntmps6
    go_wp2_with fail
    refine HS.out.mono ?_
    rintro e w1 ⟨rfl, hb1⟩
    have HNw := Lib.hid (HN.out _ hb1)
    go_wp2_with fail
    refine (HC.out _).mono ?_
    rintro e w2 ⟨rfl, rfl⟩
    go_wp2_with fail
    refine HNw.out.mono ?_
    rintro e w3 ⟨rfl, rfl⟩
    go_wp2_with fail
    go_ret
    exact ⟨rfl, hb1⟩
  · have hle : s0.size ≤ 4000 := by omega
    have HN := Lib.hid (fun W (hb : Below w.heap.size w W) => New_state s0 W hle (hT.below hb) w.heap.size hb.size)
    have HT := Lib.hid (fun W (hb : Below w.heap.size w W) => hT.below hb)
    have HL := Lib.hid (fun W (hb : Below w.heap.size w W) => hL.below hb)
    have HF := Lib.hid (fun W (hb : Below w.heap.size w W) => Few_any 20 A c l W (by omega) hl (fun k x hx => (hsz k x hx).1) (hh.below hb))
    obtain ⟨hLl, hLg⟩ := few_good hsz 20
    have HG := Lib.hid hLg
    clear hT hL hs hsz hh hl hLg hbig
    generalize fewTo5 l 20 = L at *
    go_enter Tryz.func6, Tryz.ntmps6
    go_wp2_with fail
    refine HS.out.mono ?_
    rintro e w1 ⟨rfl, hb1⟩
    have HNw := Lib.hid (HN.out _ hb1)
    have B1 := Lib.hid hb1
    have hz1 := hb1.size
    clear hb1 HS HN
    go_wp2_with fail
    refine (HC.out _).mono ?_
    rintro e w2 ⟨rfl, rfl⟩
    clear HC
    go_wp2_with fail
    refine HNw.out.mono ?_
    rintro e w3 ⟨rfl, hx3, hb3⟩
    have hB3 := B1.out.trans (hb3.mono hz1)
    have HFw := Lib.hid (HF.out w3 hB3)
    have HX3 := Lib.hid hx3
    have B3 := Lib.hid hB3
    clear hx3 hb3 hB3 HNw HF
    go_wp2_with fail
    refine HFw.out.mono ?_
    rintro e w4 ⟨v4, rfl, ho4, hb4⟩
    have HX4 := Lib.hid (HX3.out.below hb4)
    have B4 := Lib.hid (B3.out.trans (hb4.mono B3.out.size))
    have hX : w.heap.size ≤ w2.heap.size := hz1
    generalize w2.heap.size = X at *
    obtain ⟨D, dc, rfl⟩ := owns_slice ho4
    have HO4 := Lib.hid ho4
    clear ho4 hb4 HFw HX3 B3
    go_wp2_with fail
    go_loopw [8] (fun i wr => ∃ (k : Nat) (t : ByteArray) (q : Int), k ≤ L.length ∧ i = .int .i64 k ∧ Hid (StateL wr w.heap.size X X k t q) ∧ Hid (Below w.heap.size w wr) ∧ Hid (wr.ownsRow w3.heap.size 41 3 (.slice D L.length dc) L.length (actCells L))) (fun i _ => L.length - (intOf i).toNat)
    case atStart => exact ⟨0, _, _, by omega, rfl, HX4, B4, HO4⟩
    case round =>
      obtain ⟨k, t, q, hk, rfl, HX, HB, HO⟩ := hrel
      by_cases hlt : k < L.length
      · have hx := List.getElem?_eq_getElem hlt
        obtain ⟨hxs, hxn⟩ := HG.out k L[k] hx
        obtain ⟨D2, dc2, eD, -, hH, -⟩ := holdsC_of_own HO.out
        obtain ⟨rfl, rfl⟩ : D = D2 ∧ dc = dc2 := by cases eD; exact ⟨rfl, rfl⟩
        obtain ⟨b, off, rfl, c1, c2, c3⟩ := hH k L[k] hx
        generalize L[k] = x at *
        have HK := Lib.hid hx
        have HSt := Lib.hid (Splice_state w.heap.size X X k t q x.pos x.n x.s a d w wr.drew (HX.out.below (Below.refl _ _).drew) (by omega) hxs hxn (HT.out _ HB.out.drew) (HL.out _ HB.out.drew) HB.out.drew hX hX HB.out.size)
        clear hH hx eD
        go_wp2_with fail
        refine wp_region_ord (S := fun w' => w'.cell? ⟨b, off + k * 3, none⟩ = some (.int .i64 x.pos) ∧ w'.cell? ⟨b, off + k * 3 + 1, none⟩ = some (.int .i64 x.n) ∧ w'.cell? ⟨b, off + k * 3 + 2, none⟩ = some (.string x.s)) [0, 1, 2, 3, 4, 5, 6, 7, 8, 9, 10, 11, 12, 13, 14, 15] [16] (by kernel_rfl) (by kernel_rfl) (fun _ _ _ _ _ h => h) ⟨c1, c2, c3⟩ ?_
        simp only [pick, List.filterMap_cons, List.filterMap_nil, List.getElem?_toArray, List.getElem?_cons_zero, List.getElem?_cons_succ]
        repeat (refine wpHead_step (v := ?_) rfl ?_ ?_; rotate_left; (focus (rintro w1 ⟨d1, d2, d3⟩; go_simp; try with_reducible rfl)); simp only [Act.put, List.setIfInBounds_toArray, List.set_cons_zero, List.set_cons_succ])
        refine wpHead_nil ?_
        refine wpTail_step rfl (fun K hK => ?_)
        go_wp2_with fail
        refine HSt.out.mono ?_
        rintro e w5 ⟨rfl, hx5, hb5, hz5, hoth⟩
        have ho5 := hoth.own (show (World.drew wr).ownsRow _ _ _ _ _ _ from HO.out.drew) (by decide) (by decide)
        obtain ⟨D5, dc5, eD, -, hH5, -⟩ := holdsC_of_own ho5
        have hx2 : L[k]? = some x := HK.out
        obtain ⟨b5, off5, e5, d1, d2, d3⟩ := hH5 k x hx2
        cases eD
        cases e5
        have HX5 := Lib.hid hx5
        have B5 := Lib.hid hb5
        have HO5 := Lib.hid ho5
        clear hx5 hb5 hoth ho5 hH5 hx2 HSt hz5 c1 c2 c3
        go_wp2_with fail
        refine hK _ _ ⟨d1, d2, d3⟩ ?_
        clear hK K
        try simp only [Act.put, List.setIfInBounds_toArray, List.set_cons_zero, List.set_cons_succ]
        refine wpTail_nil ?_
        go_wp2_with fail
        go_roundw
        case rel => exact ⟨k + 1, _, _, by omega, by go_num, HX5, B5, HO5⟩
        case measure => simp [intOf]; omega
      · obtain rfl : k = L.length := by omega
        have hlex := HX.out.lex
        have hsize := HX.out.size
        have hb := HB.out
        have HTx := Lib.hid (fun W (h : IsLexB W X X t q) => Text_lex X t q W h.is hsize)
        have HLi := Lib.hid (fun W (h : IsLexB W X X t q) => Lines_any X t q W h.is hsize)
        have HTo := Lib.hid (fun W (h : IsLexB W X X t q) => TokensC X t q W h.is hsize)
        have HLX := Lib.hid hlex
        have HNe := Lib.hid (fun W (hb : Below w.heap.size w W) => New_any t W hsize (HT.out W hb))
        have hlen := tokensS_len t
        have htx := tokens_textOf t
        have HTL := Lib.hid (show (tokensS t).length ≤ 5000 by omega)
        have HTE := Lib.hid htx
        clear hlex hb hlen htx HX HO HG HT HL HX4 HO4 B4
        have S1 := Lib.hid (HTx.out wr HLX.out)
        have hpl : (piecesB t).length = (piecesB t).length := rfl
        go_wp2_with fail
        refine S1.out.mono ?_
        rintro e w5 ⟨rfl, hb5⟩
        have hB5 := HB.out.trans (hb5.mono HB.out.size)
        have S2 := Lib.hid (HNe.out w5 hB5)
        have HX5 := Lib.hid (HLX.out.below hb5)
        have B5 := Lib.hid hB5
        clear hb5 hB5 S1
        go_wp2_with fail
        refine S2.out.mono ?_
        rintro e w6 ⟨rfl, hy6, hb6⟩
        have hB6 := B5.out.trans (hb6.mono B5.out.size)
        have hX6 := HX5.out.below hb6
        have hY6 := hy6.lex
        have HYT := Lib.hid (fun W (h : IsLexB W w5.heap.size w5.heap.size t (piecesB t).length) => TokensC w5.heap.size t (piecesB t).length W h.is hsize)
        have HYL := Lib.hid (fun W (h : IsLexB W w5.heap.size w5.heap.size t (piecesB t).length) => Lines_any w5.heap.size t (piecesB t).length W h.is hsize)
        have S3 := Lib.hid (HTo.out w6 hX6)
        have B6 := Lib.hid hB6
        have HX6 := Lib.hid hX6
        have HY6 := Lib.hid hY6
        clear hy6 hb6 hB6 hX6 hY6 S2 HNe HX5 B5
        go_wp2_with fail
        refine S3.out.mono ?_
        rintro e w7 ⟨A7, c7, rfl, hH7, -, hb7⟩
        have S4 := Lib.hid (HYT.out w7 (HY6.out.below hb7))
        have HX7 := Lib.hid (HX6.out.below hb7)
        have HY7 := Lib.hid (HY6.out.below hb7)
        have B7 := Lib.hid (B6.out.trans (hb7.mono B6.out.size))
        have HH7 := Lib.hid hH7
        clear hH7 hb7 S3 B6 HX6 HY6
        go_wp2_with fail
        refine S4.out.mono ?_
        rintro e w8 ⟨A8, c8, rfl, hH8, -, hb8⟩
        have S5 := refSame_any (tokensS t) (tokensS t) A7 A8 c7 c8 w8 (by have := HTL.out; omega) (by have := HTL.out; omega) (HH7.out.below hb8) hH8
        rw [show decide (tokensS t = tokensS t) = true by simp] at S5
        have S5 := Lib.hid S5
        have HX8 := Lib.hid (HX7.out.below hb8)
        have HY8 := Lib.hid (HY7.out.below hb8)
        have B8 := Lib.hid (B7.out.trans (hb8.mono B7.out.size))
        clear hH8 hb8 S4 B7 HX7 HY7 HH7
        go_wp2_with fail
        refine S5.out.mono ?_
        rintro e w9 ⟨rfl, hb9⟩
        have S6 := Lib.hid (HLi.out w9 (HX8.out.below hb9))
        have S7 := Lib.hid (HYL.out w9 (HY8.out.below hb9))
        have S8 := Lib.hid (HTo.out w9 (HX8.out.below hb9))
        have HX9 := Lib.hid (HX8.out.below hb9)
        have B9 := Lib.hid (B8.out.trans (hb9.mono B8.out.size))
        clear hb9 S5 B8 HX8 HY8
        go_wp2_with fail
        refine S6.out.mono ?_
        rintro e w10 ⟨rfl, rfl⟩
        go_wp2_with fail
        refine S7.out.mono ?_
        rintro e w11 ⟨rfl, rfl⟩
        go_wp2_with fail
        refine S8.out.mono ?_
        rintro e w12 ⟨A12, c12, rfl, hH12, -, hb12⟩
        have S9 := refText_any (tokensS t) A12 c12 w12 (by have := HTL.out; omega) (by rw [HTE.out]; omega) hH12
        rw [HTE.out] at S9
        have S9 := Lib.hid S9
        have S10 := Lib.hid (HTx.out w12 (HX9.out.below hb12))
        have B12 := Lib.hid (B9.out.trans (hb12.mono B9.out.size))
        clear hH12 hb12 S6 S7 S8 HX9 B9
        go_wp2_with fail
        refine S9.out.mono ?_
        rintro e w13 ⟨rfl, rfl⟩
        go_wp2_with fail
        refine S10.out.mono ?_
        rintro e w14 ⟨rfl, hb14⟩
        have B14 := Lib.hid (B12.out.trans (hb14.mono B12.out.size))
        clear hb14 S9 S10 B12
        go_wp2_with fail
        go_ret
        exact ⟨rfl, B14.out⟩
end Go.Proofs.YtflpihedhccdfaaGreatDoor
