/-
  The law JsonRights: true.
-/
import Derived.Test.YtamclieppbnpiaaGreatDoorProg
import Derived.Test.YtamclieppbnpiaaGreatDoorReg
import Derived.WalkKit
import Derived.WalkSpells
import Derived.WalkLawsBesides
import Derived.Lib.Hide
import Derived.Lib.MinMax
import Derived.Deep.QuietTactic
import Derived.BigQuiet
import Derived.OwnWalk
import Derived.Deep.AppendLies
import Derived.KernelRfl
import Derived.Test.YtamclieppbnpiaaGreatDoorJtA
set_option linter.unusedSimpArgs false
set_option linter.unusedVariables false
namespace Go.Proofs.YtamclieppbnpiaaGreatDoor
open Go Go.RowKit Go.Maps

theorem noJs_ok : okJ 100 noJs := okJ_iff.2 ⟨inI0, by decide, by decide, by decide, fun k hk => (by cases hk), fun x hx => (by cases hx)⟩
theorem cat3 (s : ByteArray) : (⟨#[32]⟩ ++ s ++ ⟨#[10]⟩ : ByteArray) = bs (32 :: (s.data.toList ++ [10])) := by
  have e : bs (32 :: (s.data.toList ++ [10])) = bs [32] ++ bs s.data.toList ++ bs [10] := by rw [bs_app, bs_app]; rfl
  rw [e, bs_of]
  rfl
set_option maxRecDepth 100000 in
set_option maxHeartbeats 8000000 in
theorem jsonRights_any (a : Addr) (s : ByteArray) (w : World) (hs : s.size ≤ maxLen) (hW : WJ a w) : Calls Tryz.prog 6 #[.string s] w fun e w' => e = .returned (.bool true) ∧ Below w.heap.size w w' := by
  have HS := Lib.hid (shown_any a w hW)
  have HC := Lib.hid (fun W => cut_any s W hs)
  have hz := headS_size 600 s
  have HW := Lib.hid hW
  have e1 := bs_of (headS 600 s)
  have hl : (headS 600 s).data.toList.length = (headS 600 s).size := Array.length_toList
  cases hE : parseL (headS 600 s).data.toList with
  | error c =>
    have hc := (parse_code hE).ne
    have qc : ((c : Int) == 0) = false := by simpa using hc
    have HP := Lib.hid (fun W h => parse_any a _ W _ hE (by omega) h)
    rw [e1] at HP
    have HM := Lib.hid (fun W cs h => Same_any 100 (by omega) noJs noJs noJs_ok noJs_ok cs _ W h (noJs_JC W))
    rw [sameJ_iff.2 rfl] at HM
    clear hW e1 hl hz hE hc
    generalize headS 600 s = t at *
    go_enter Tryz.func6, Tryz.ntmps6
    go_wp2_with fail
    refine (HS.out).mono ?_
    rintro e w1 ⟨rfl, hb⟩
    have HB1 := Lib.hid (hb)
    have HW1 := Lib.hid (HW.out.keep hb)
    clear hb
    go_wp2_with fail
    refine (HC.out _).mono ?_
    rintro e w2 ⟨rfl, hw⟩
    subst w2
    go_wp2_with fail
    refine (HP.out _ HW1.out).mono ?_
    rintro e w3 ⟨hb, rfl⟩
    unfold zeroJ
    have hb5 := hb.trans ((below_new w3 (.cells #[.int .i64 0, .bool false, .int .i64 0, .string ⟨#[]⟩, .slice none 0 0, .slice none 0 0] tJ)).mono hb.size)
    have hv := heap_alloc_new w3 (.cells #[.int .i64 0, .bool false, .int .i64 0, .string ⟨#[]⟩, .slice none 0 0, .slice none 0 0] tJ)
    have HM3 := Lib.hid (HM.out (w3.alloc (.cells #[.int .i64 0, .bool false, .int .i64 0, .string ⟨#[]⟩, .slice none 0 0, .slice none 0 0] tJ)) _ (noJs_JC _))
    have HB2 := Lib.hid (HB1.out.trans ((hb5).mono HB1.out.size))
    have HW2 := Lib.hid (HW1.out.keep hb5)
    obtain ⟨y0, y1, y2, y3, y4, y5⟩ := six_at hv
    clear hb hb5 hv
    go_wp2_with fail
    refine (HM3.out).mono ?_
    rintro e w4 ⟨rfl, hb⟩
    have HB3 := Lib.hid (HB2.out.trans ((hb).mono HB2.out.size))
    have HW3 := Lib.hid (HW2.out.keep hb)
    clear hb
    go_wp2_with fail
    go_ret
    exact ⟨rfl, HB3.out⟩
  | ok v =>
    obtain ⟨hr, hf, hp3⟩ := parse_right hE
    have hlen := parse_len hE
    have hok := right_ok (M := 100000) v 64 hr hf (by omega)
    have HP := Lib.hid (fun W h => parse_any a _ W _ hE (by omega) h)
    rw [e1] at HP
    have HP2 := Lib.hid (fun W h => parse_any a _ W _ (parse_text hr hf) (by omega) h)
    have HP3 := Lib.hid (fun W h => parse_any a _ W _ hp3 (by simp; omega) h)
    rw [← cat3] at HP3
    have HPr := Lib.hid (fun W cs h1 h2 => Print_any a 100000 (by omega) v hok (fun _ => by omega) cs W h1 h2)
    have HRt := Lib.hid (fun W cs h1 h2 => Right_any a 100000 (by omega) v hok cs W h1 h2)
    have HM := Lib.hid (fun W cs ds h1 h2 => Same_any 100000 (by omega) v v hok hok cs ds W h1 h2)
    rw [hr] at HPr HRt
    rw [sameJ_iff.2 rfl] at HM
    simp only [if_true] at HPr
    have z1 : ¬ 9223372036854775807 < 1 + (headS 600 s).size := by omega
    have z2 : ¬ 9223372036854775807 < 1 + (headS 600 s).size + 1 := by omega
    clear hW e1 hl hz hE hr hf hp3 hlen hok
    generalize jtext v = t1 at *
    generalize headS 600 s = t at *
    go_enter Tryz.func6, Tryz.ntmps6
    go_wp2_with fail
    refine (HS.out).mono ?_
    rintro e w1 ⟨rfl, hb⟩
    have HB1 := Lib.hid (hb)
    have HW1 := Lib.hid (HW.out.keep hb)
    clear hb
    go_wp2_with fail
    refine (HC.out _).mono ?_
    rintro e w2 ⟨rfl, hw⟩
    subst w2
    go_wp2_with fail
    refine (HP.out _ HW1.out).mono ?_
    rintro e w3 ⟨hb, cs, rfl, hJ⟩
    obtain ⟨A1, c1, B1, d1, rfl⟩ := hJ.six
    have hv := VarAt.new hJ
    have hbV := below_new w3 (.cells #[.int .i64 v.kind, .bool v.yes, .int .i64 v.n, .string v.s, .slice A1 v.keys.length c1, .slice B1 v.l.length d1] tJ)
    have hb2 := hb.trans (hbV.mono hb.size)
    have HB2 := Lib.hid (HB1.out.trans ((hb2).mono HB1.out.size))
    have HW2 := Lib.hid (HW1.out.keep hb2)
    have v_2 := Lib.hid hv
    clear hJ hb hb2 hbV hv
    obtain ⟨v2c0, v2c1, v2c2, v2c3, v2c4, v2c5⟩ := six_at v_2.out.row
    go_wp2_with fail
    generalize w3.alloc (.cells #[.int .i64 v.kind, .bool v.yes, .int .i64 v.n, .string v.s, .slice A1 v.keys.length c1, .slice B1 v.l.length d1] tJ) = w3v at *
    refine (HPr.out _ _ v_2.out.jc HW2.out).mono ?_
    rintro e w4 ⟨rfl, hb⟩
    have HB3 := Lib.hid (HB2.out.trans ((hb).mono HB2.out.size))
    have HW3 := Lib.hid (HW2.out.keep hb)
    have v_3 := Lib.hid (v_2.out.keep hb)
    clear hb
    go_wp2_with fail
    refine (HP2.out _ HW3.out).mono ?_
    rintro e w5 ⟨hb, cs, rfl, hJ⟩
    obtain ⟨A2, c2, B2, d2, rfl⟩ := hJ.six
    have hv := VarAt.new hJ
    have hbV := below_new w5 (.cells #[.int .i64 v.kind, .bool v.yes, .int .i64 v.n, .string v.s, .slice A2 v.keys.length c2, .slice B2 v.l.length d2] tJ)
    have hb2 := hb.trans (hbV.mono hb.size)
    have HB4 := Lib.hid (HB3.out.trans ((hb2).mono HB3.out.size))
    have HW4 := Lib.hid (HW3.out.keep hb2)
    have v_4 := Lib.hid (v_3.out.keep hb2)
    have u_4 := Lib.hid hv
    clear hJ hb hb2 hbV hv
    go_wp2_with fail
    generalize w5.alloc (.cells #[.int .i64 v.kind, .bool v.yes, .int .i64 v.n, .string v.s, .slice A2 v.keys.length c2, .slice B2 v.l.length d2] tJ) = w5v at *
    refine (HC.out _).mono ?_
    rintro e w6 ⟨rfl, hw⟩
    subst w6
    go_wp2_with fail
    refine (HP3.out _ HW4.out).mono ?_
    rintro e w7 ⟨hb, cs, rfl, hJ⟩
    obtain ⟨A3, c3, B3, d3, rfl⟩ := hJ.six
    have hv := VarAt.new hJ
    have hbV := below_new w7 (.cells #[.int .i64 v.kind, .bool v.yes, .int .i64 v.n, .string v.s, .slice A3 v.keys.length c3, .slice B3 v.l.length d3] tJ)
    have hb2 := hb.trans (hbV.mono hb.size)
    have HB5 := Lib.hid (HB4.out.trans ((hb2).mono HB4.out.size))
    have HW5 := Lib.hid (HW4.out.keep hb2)
    have v_5 := Lib.hid (v_4.out.keep hb2)
    have u_5 := Lib.hid (u_4.out.keep hb2)
    have q_5 := Lib.hid hv
    clear hJ hb hb2 hbV hv
    obtain ⟨v5c0, v5c1, v5c2, v5c3, v5c4, v5c5⟩ := six_at v_5.out.row
    obtain ⟨u5c0, u5c1, u5c2, u5c3, u5c4, u5c5⟩ := six_at u_5.out.row
    obtain ⟨q5c0, q5c1, q5c2, q5c3, q5c4, q5c5⟩ := six_at q_5.out.row
    go_wp2_with fail
    generalize w7.alloc (.cells #[.int .i64 v.kind, .bool v.yes, .int .i64 v.n, .string v.s, .slice A3 v.keys.length c3, .slice B3 v.l.length d3] tJ) = w7v at *
    refine (HRt.out _ _ v_5.out.jc HW5.out).mono ?_
    rintro e w8 ⟨rfl, hb⟩
    have HB6 := Lib.hid (HB5.out.trans ((hb).mono HB5.out.size))
    have HW6 := Lib.hid (HW5.out.keep hb)
    have v_6 := Lib.hid (v_5.out.keep hb)
    have u_6 := Lib.hid (u_5.out.keep hb)
    have q_6 := Lib.hid (q_5.out.keep hb)
    clear hb
    obtain ⟨v6c0, v6c1, v6c2, v6c3, v6c4, v6c5⟩ := six_at v_6.out.row
    obtain ⟨u6c0, u6c1, u6c2, u6c3, u6c4, u6c5⟩ := six_at u_6.out.row
    obtain ⟨q6c0, q6c1, q6c2, q6c3, q6c4, q6c5⟩ := six_at q_6.out.row
    go_wp2_with fail
    refine (HM.out _ _ _ v_6.out.jc u_6.out.jc).mono ?_
    rintro e w9 ⟨rfl, hb⟩
    have HB7 := Lib.hid (HB6.out.trans ((hb).mono HB6.out.size))
    have HW7 := Lib.hid (HW6.out.keep hb)
    have v_7 := Lib.hid (v_6.out.keep hb)
    have u_7 := Lib.hid (u_6.out.keep hb)
    have q_7 := Lib.hid (q_6.out.keep hb)
    clear hb
    obtain ⟨v7c0, v7c1, v7c2, v7c3, v7c4, v7c5⟩ := six_at v_7.out.row
    obtain ⟨u7c0, u7c1, u7c2, u7c3, u7c4, u7c5⟩ := six_at u_7.out.row
    obtain ⟨q7c0, q7c1, q7c2, q7c3, q7c4, q7c5⟩ := six_at q_7.out.row
    go_wp2_with fail
    refine (HM.out _ _ _ q_7.out.jc v_7.out.jc).mono ?_
    rintro e w10 ⟨rfl, hb⟩
    have HB8 := Lib.hid (HB7.out.trans ((hb).mono HB7.out.size))
    have HW8 := Lib.hid (HW7.out.keep hb)
    have v_8 := Lib.hid (v_7.out.keep hb)
    have u_8 := Lib.hid (u_7.out.keep hb)
    have q_8 := Lib.hid (q_7.out.keep hb)
    clear hb
    go_wp2_with fail
    go_ret
    exact ⟨rfl, HB8.out⟩
end Go.Proofs.YtamclieppbnpiaaGreatDoor
