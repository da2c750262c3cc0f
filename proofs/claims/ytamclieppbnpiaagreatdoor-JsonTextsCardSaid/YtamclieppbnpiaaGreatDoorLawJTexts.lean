/-
  The law JsonTexts: true.
-/
import Derived.Test.YtamclieppbnpiaaGreatDoorProg
import Derived.Test.YtamclieppbnpiaaGreatDoorReg
import Derived.WalkKit
import Derived.WalkSpells
import Derived.WalkLawsBesides
import Derived.Lib.Hide
import Derived.Lib.MinMax
import Derived.Deep.QuietTactic
import Derived.BigQuiet
import Derived.OwnWalk
import Derived.Deep.AppendLies
import Derived.KernelRfl
import Derived.Test.YtamclieppbnpiaaGreatDoorJw32
set_option linter.unusedSimpArgs false
set_option linter.unusedVariables false
namespace Go.Proofs.YtamclieppbnpiaaGreatDoor
open Go Go.RowKit Go.Maps

theorem right_text {s : ByteArray} (h : Lib.validD s.data.toList = true) (d : Nat) : rightJ (d + 1) (.mk 3 false 0 s [] []) = true := by
  rw [rightJ, own_mk]
  simp [validB, h, Js.l]
theorem text_ok (s : ByteArray) (h : s.size ≤ 50) : okJ 100 (.mk 3 false 0 s [] []) :=
  okJ_iff.2 ⟨inI0, by show s.size ≤ 100; omega, Nat.zero_le _, Nat.zero_le _, fun k hk => (by cases hk), fun x hx => (by cases hx)⟩
theorem texts_plain {s : ByteArray} (h : Lib.validD s.data.toList = true) : parseL (quoteL s.data.toList) = .ok (.mk 3 false 0 s [] []) := by
  have hv : rightJ 64 (.mk 3 false 0 s [] []) = true := right_text h 63
  have hf : fitJ (.mk 3 false 0 s [] []) := fitJ_iff.2 ⟨inI0, fun x hx => (by cases hx)⟩
  have := parse_text hv hf
  rw [show jtext (.mk 3 false 0 s [] []) = quoteL s.data.toList by simp [jtext]] at this
  exact this
theorem parse_none : parseL [] = .error 150 := by kernel_rfl
theorem text_JC (w : World) (s : ByteArray) : JC w (.mk 3 false 0 s [] []) [.int .i64 3, .bool false, .int .i64 0, .string s, .slice none 0 0, .slice none 0 0] :=
  JC_iff.2 ⟨none, 0, none, 0, rfl, Fz.HoldsS.nil _ _, Nat.le_refl _, Nat.le_refl _, HoldsJ.nil _ _⟩
set_option maxRecDepth 100000 in
set_option maxHeartbeats 8000000 in
theorem jsonTexts_any (a : Addr) (s : ByteArray) (w : World) (hs : s.size ≤ maxLen) (hW : WJ a w) : Calls Tryz.prog 8 #[.string s] w fun e w' => e = .returned (.bool true) ∧ Below w.heap.size w w' := by
  have HS := Lib.hid (shown_any a w hW)
  have HC := Lib.hid (fun W => short_any s W hs)
  have hz := headS_size 50 s
  have HW := Lib.hid hW
  have e1 := bs_of (headS 50 s)
  have hl : (headS 50 s).data.toList.length = (headS 50 s).size := Array.length_toList
  have HQ := Lib.hid (fun W h => Quote_any a (headS 50 s).data.toList W (by omega) h)
  rw [e1] at HQ
  have hq := quote_len (headS 50 s).data.toList
  cases hv : Lib.validD (headS 50 s).data.toList with
  | false =>
    rw [hv] at HQ
    simp only [Bool.false_eq_true, if_false] at HQ
    rw [show bs [] = (⟨#[]⟩ : ByteArray) from rfl] at HQ
    have HP := Lib.hid (fun W h => parse_any a [] W _ parse_none (by decide) h)
    rw [show bs [] = (⟨#[]⟩ : ByteArray) from rfl] at HP
    clear hW e1 hl hz hq hv
    generalize headS 50 s = t at *
    go_enter Tryz.func8, Tryz.ntmps8
    go_wp2_with fail
    refine HS.out.mono ?_
    rintro e w1 ⟨rfl, hb⟩
    have HB1 := Lib.hid hb
    have HW1 := Lib.hid (HW.out.keep hb)
    clear hb
    go_wp2_with fail
    refine (HC.out _).mono ?_
    rintro e w2 ⟨rfl, hw⟩
    subst w2
    go_wp2_with fail
    refine (HQ.out _ HW1.out).mono ?_
    rintro e w3 ⟨rfl, hb⟩
    have HB3 := Lib.hid (HB1.out.trans (hb.mono HB1.out.size))
    have HW3 := Lib.hid (HW1.out.keep hb)
    clear hb
    go_wp2_with fail
    refine (HP.out _ HW3.out).mono ?_
    rintro e w4 ⟨hb, rfl⟩
    unfold zeroJ
    have hb5 := hb.trans ((below_new w4 (.cells #[.int .i64 0, .bool false, .int .i64 0, .string ⟨#[]⟩, .slice none 0 0, .slice none 0 0] tJ)).mono hb.size)
    have HB5 := Lib.hid (HB3.out.trans (hb5.mono HB3.out.size))
    clear hb hb5
    go_wp2_with fail
    go_ret
    exact ⟨rfl, HB5.out⟩
  | true =>
    rw [hv] at HQ
    simp only [if_true] at HQ
    have HP := Lib.hid (fun W h => parse_any a (quoteL (headS 50 s).data.toList) W _ (texts_plain hv) (by omega) h)
    have HM := Lib.hid (fun W cs h => Same_any 100 (by omega) (.mk 3 false 0 (headS 50 s) [] []) (.mk 3 false 0 (headS 50 s) [] []) (text_ok _ hz) (text_ok _ hz) cs _ W h (text_JC W (headS 50 s)))
    rw [sameJ_iff.2 rfl] at HM
    clear hW e1 hl hz hq hv
    generalize quoteL (headS 50 s).data.toList = q at *
    generalize headS 50 s = t at *
    go_enter Tryz.func8, Tryz.ntmps8
    go_wp2_with fail
    refine HS.out.mono ?_
    rintro e w1 ⟨rfl, hb⟩
    have HB1 := Lib.hid hb
    have HW1 := Lib.hid (HW.out.keep hb)
    clear hb
    go_wp2_with fail
    refine (HC.out _).mono ?_
    rintro e w2 ⟨rfl, hw⟩
    subst w2
    go_wp2_with fail
    refine (HQ.out _ HW1.out).mono ?_
    rintro e w3 ⟨rfl, hb⟩
    have HB3 := Lib.hid (HB1.out.trans (hb.mono HB1.out.size))
    have HW3 := Lib.hid (HW1.out.keep hb)
    clear hb
    go_wp2_with fail
    refine (HP.out _ HW3.out).mono ?_
    rintro e w4 ⟨hb, cs, rfl, hJ⟩
    obtain ⟨A, c, B, d, rfl⟩ := hJ.six
    simp only [Js.kind, Js.yes, Js.n, Js.s, Js.keys, Js.l, List.length_nil] at hJ ⊢
    have hbV := below_new w4 (.cells #[.int .i64 3, .bool false, .int .i64 0, .string t, .slice A 0 c, .slice B 0 d] tJ)
    have hV := heap_alloc_new w4 (.cells #[.int .i64 3, .bool false, .int .i64 0, .string t, .slice A 0 c, .slice B 0 d] tJ)
    have hb5 := hb.trans (hbV.mono hb.size)
    have HB5 := Lib.hid (HB3.out.trans (hb5.mono HB3.out.size))
    have HJ5 := Lib.hid (hJ.keep hbV)
    have HMc := Lib.hid (HM.out _ _ HJ5.out)
    obtain ⟨y0, y1, y2, y3, y4, y5⟩ := six_at hV
    clear hb hb5 hJ hbV hV
    go_wp2_with fail
    refine HMc.out.mono ?_
    rintro e w6 ⟨rfl, hb⟩
    have HB6 := Lib.hid (HB5.out.trans (hb.mono HB5.out.size))
    clear hb
    go_wp2_with fail
    go_ret
    exact ⟨rfl, HB6.out⟩
end Go.Proofs.YtamclieppbnpiaaGreatDoor
