/-
  The law JsonBack: true.
-/
import Derived.Test.YtamclieppbnpiaaGreatDoorProg
import Derived.Test.YtamclieppbnpiaaGreatDoorReg
import Derived.WalkKit
import Derived.WalkSpells
import Derived.WalkLawsBesides
import Derived.Lib.Hide
import Derived.Lib.MinMax
import Derived.Deep.QuietTactic
import Derived.BigQuiet
import Derived.OwnWalk
import Derived.Deep.AppendLies
import Derived.KernelRfl
import Derived.Test.YtamclieppbnpiaaGreatDoorJtA
set_option linter.unusedSimpArgs false
set_option linter.unusedVariables false
namespace Go.Proofs.YtamclieppbnpiaaGreatDoor
open Go Go.RowKit Go.Maps

set_option maxRecDepth 100000 in
set_option maxHeartbeats 8000000 in
theorem jsonBack_any (a : Addr) (x : Js) (cs : List Value) (w : World) (ho : okJ maxLen x) (hJx : JC w x cs) (hW : WJ a w) : Calls Tryz.prog 5 #[.agg cs.toArray] w fun e w' => e = .returned (.bool true) ∧ Below w.heap.size w w' := by
  obtain ⟨A0, c0, B0, d0, rfl, -⟩ := JC_iff.1 hJx
  have hb0 := below_new w (.cells #[.int .i64 x.kind, .bool x.yes, .int .i64 x.n, .string x.s, .slice A0 x.keys.length c0, .slice B0 x.l.length d0] tJ)
  have hv0 := VarAt.new hJx
  have HS := Lib.hid (shown_any a _ (hW.keep hb0))
  have HW := Lib.hid hW
  have HFx := Lib.hid (fun W cs h => few4_any x ho cs W h)
  have hok := few_ok 4 x ho
  have hok2 := okJ.mono (M := 50) (N := 100) (by omega) _ hok
  have hfit := fewJ_fit 4 ho
  have hlen := few_text4 ho
  have HPr := Lib.hid (fun W cs h1 h2 => Print_any a 100 (by omega) (fewJ 4 x) hok2 (fun _ => by omega) cs W h1 h2)
  have HRt := Lib.hid (fun W cs h1 h2 => Right_any a 100 (by omega) (fewJ 4 x) hok2 cs W h1 h2)
  have HM := Lib.hid (fun W cs ds h1 h2 => Same_any 100 (by omega) (fewJ 4 x) (fewJ 4 x) hok2 hok2 cs ds W h1 h2)
  rw [sameJ_iff.2 rfl] at HM
  have HB1 := Lib.hid hb0
  have HW1 := Lib.hid (hW.keep hb0)
  have x_1 := Lib.hid hv0
  have lx := hv0.lt
  clear hW hb0 hv0 hok hok2
  cases hr : rightJ 64 (fewJ 4 x) with
  | false =>
    rw [hr] at HPr HRt
    simp only [Bool.false_eq_true, if_false] at HPr
    rw [show bs [] = (⟨#[]⟩ : ByteArray) from rfl] at HPr
    clear hr hfit hlen HM
    generalize hF : fewJ 4 x = f at *
    clear hF
    obtain ⟨i0, i1, i2, i3, i4, i5⟩ := six_at x_1.out.row
    go_enter Tryz.func5, Tryz.ntmps5
    go_wp2_with fail
    generalize w.alloc (.cells #[.int .i64 x.kind, .bool x.yes, .int .i64 x.n, .string x.s, .slice A0 x.keys.length c0, .slice B0 x.l.length d0] tJ) = W0 at *
    refine (HS.out).mono ?_
    rintro e w1 ⟨rfl, hb⟩
    have HB2 := Lib.hid (HB1.out.trans ((hb).mono HB1.out.size))
    have HW2 := Lib.hid (HW1.out.keep hb)
    have x_2 := Lib.hid (x_1.out.keep hb)
    clear hb
    obtain ⟨x2c0, x2c1, x2c2, x2c3, x2c4, x2c5⟩ := six_at x_2.out.row
    go_wp2_with fail
    refine (HFx.out _ _ x_2.out.jc).mono ?_
    rintro e w2 ⟨hf, hb⟩
    obtain ⟨A1, c1, B1, d1, rfl, hJ⟩ := hf.six
    have hBn := HB2.out.trans (hb.mono HB2.out.size)
    have hrow := (hb.block _ x_2.out.lt).trans x_2.out.row
    obtain ⟨w2s, hw2s⟩ : ∃ W', W' = ((((((w2.setCell ⟨w.heap.size, 0, none⟩ (.int .i64 f.kind)).setCell ⟨w.heap.size, 1, none⟩ (.bool f.yes)).setCell ⟨w.heap.size, 2, none⟩ (.int .i64 f.n)).setCell ⟨w.heap.size, 3, none⟩ (.string f.s)).setCell ⟨w.heap.size, 4, none⟩ (.slice A1 f.keys.length c1)).setCell ⟨w.heap.size, 5, none⟩ (.slice B1 f.l.length d1)) := ⟨_, rfl⟩
    obtain ⟨q1, q2, q3, q4⟩ := few_store hBn hrow (by omega) hJ x_2.out.lt w2s hw2s
    have HB3 := Lib.hid q1
    have HW3 := Lib.hid (HW.out.keep q1)
    have x_3 := Lib.hid q2
    obtain ⟨r0, r1, r2, r3, r4, r5⟩ := six_at hrow
    have rz := fun j => frozen_of_row w2 _ j _ _ hrow
    have rl := (Array.getElem?_eq_some_iff.1 hrow).1
    clear hf hb hJ hBn hrow q1 q2 q3 q4
    go_wp2_with fail
    rw [← hw2s]
    clear hw2s r0 r1 r2 r3 r4 r5 rz rl
    obtain ⟨x3c0, x3c1, x3c2, x3c3, x3c4, x3c5⟩ := six_at x_3.out.row
    go_wp2_with fail
    refine (HPr.out _ _ x_3.out.jc HW3.out).mono ?_
    rintro e w3 ⟨rfl, hb⟩
    have HB4 := Lib.hid (HB3.out.trans ((hb).mono HB3.out.size))
    have HW4 := Lib.hid (HW3.out.keep hb)
    have x_4 := Lib.hid (x_3.out.keep hb)
    clear hb
    obtain ⟨x4c0, x4c1, x4c2, x4c3, x4c4, x4c5⟩ := six_at x_4.out.row
    go_wp2_with fail
    refine (HRt.out _ _ x_4.out.jc HW4.out).mono ?_
    rintro e w4 ⟨rfl, hb⟩
    have HB5 := Lib.hid (HB4.out.trans ((hb).mono HB4.out.size))
    have HW5 := Lib.hid (HW4.out.keep hb)
    have x_5 := Lib.hid (x_4.out.keep hb)
    clear hb
    go_wp2_with fail
    go_ret
    exact ⟨rfl, HB5.out⟩
  | true =>
    have HP := Lib.hid (fun W h => parse_any a _ W _ (parse_text hr hfit) (by omega) h)
    rw [hr] at HPr HRt
    simp only [if_true] at HPr
    clear hr hfit hlen
    generalize jtext (fewJ 4 x) = t1 at *
    generalize hF : fewJ 4 x = f at *
    clear hF
    obtain ⟨i0, i1, i2, i3, i4, i5⟩ := six_at x_1.out.row
    go_enter Tryz.func5, Tryz.ntmps5
    go_wp2_with fail
    generalize w.alloc (.cells #[.int .i64 x.kind, .bool x.yes, .int .i64 x.n, .string x.s, .slice A0 x.keys.length c0, .slice B0 x.l.length d0] tJ) = W0 at *
    refine (HS.out).mono ?_
    rintro e w1 ⟨rfl, hb⟩
    have HB2 := Lib.hid (HB1.out.trans ((hb).mono HB1.out.size))
    have HW2 := Lib.hid (HW1.out.keep hb)
    have x_2 := Lib.hid (x_1.out.keep hb)
    clear hb
    obtain ⟨x2c0, x2c1, x2c2, x2c3, x2c4, x2c5⟩ := six_at x_2.out.row
    go_wp2_with fail
    refine (HFx.out _ _ x_2.out.jc).mono ?_
    rintro e w2 ⟨hf, hb⟩
    obtain ⟨A1, c1, B1, d1, rfl, hJ⟩ := hf.six
    have hBn := HB2.out.trans (hb.mono HB2.out.size)
    have hrow := (hb.block _ x_2.out.lt).trans x_2.out.row
    obtain ⟨w2s, hw2s⟩ : ∃ W', W' = ((((((w2.setCell ⟨w.heap.size, 0, none⟩ (.int .i64 f.kind)).setCell ⟨w.heap.size, 1, none⟩ (.bool f.yes)).setCell ⟨w.heap.size, 2, none⟩ (.int .i64 f.n)).setCell ⟨w.heap.size, 3, none⟩ (.string f.s)).setCell ⟨w.heap.size, 4, none⟩ (.slice A1 f.keys.length c1)).setCell ⟨w.heap.size, 5, none⟩ (.slice B1 f.l.length d1)) := ⟨_, rfl⟩
    obtain ⟨q1, q2, q3, q4⟩ := few_store hBn hrow (by omega) hJ x_2.out.lt w2s hw2s
    have HB3 := Lib.hid q1
    have HW3 := Lib.hid (HW.out.keep q1)
    have x_3 := Lib.hid q2
    obtain ⟨r0, r1, r2, r3, r4, r5⟩ := six_at hrow
    have rz := fun j => frozen_of_row w2 _ j _ _ hrow
    have rl := (Array.getElem?_eq_some_iff.1 hrow).1
    clear hf hb hJ hBn hrow q1 q2 q3 q4
    go_wp2_with fail
    rw [← hw2s]
    clear hw2s r0 r1 r2 r3 r4 r5 rz rl
    obtain ⟨x3c0, x3c1, x3c2, x3c3, x3c4, x3c5⟩ := six_at x_3.out.row
    go_wp2_with fail
    refine (HPr.out _ _ x_3.out.jc HW3.out).mono ?_
    rintro e w3 ⟨rfl, hb⟩
    have HB4 := Lib.hid (HB3.out.trans ((hb).mono HB3.out.size))
    have HW4 := Lib.hid (HW3.out.keep hb)
    have x_4 := Lib.hid (x_3.out.keep hb)
    clear hb
    obtain ⟨x4c0, x4c1, x4c2, x4c3, x4c4, x4c5⟩ := six_at x_4.out.row
    go_wp2_with fail
    refine (HP.out _ HW4.out).mono ?_
    rintro e w5 ⟨hb, cs, rfl, hJ⟩
    obtain ⟨A2, c2, B2, d2, rfl⟩ := hJ.six
    have hv := VarAt.new hJ
    have hbV := below_new w5 (.cells #[.int .i64 f.kind, .bool f.yes, .int .i64 f.n, .string f.s, .slice A2 f.keys.length c2, .slice B2 f.l.length d2] tJ)
    have hb2 := hb.trans (hbV.mono hb.size)
    have HB5 := Lib.hid (HB4.out.trans ((hb2).mono HB4.out.size))
    have HW5 := Lib.hid (HW4.out.keep hb2)
    have x_5 := Lib.hid (x_4.out.keep hb2)
    have u_5 := Lib.hid hv
    clear hJ hb hb2 hbV hv
    obtain ⟨x5c0, x5c1, x5c2, x5c3, x5c4, x5c5⟩ := six_at x_5.out.row
    obtain ⟨u5c0, u5c1, u5c2, u5c3, u5c4, u5c5⟩ := six_at u_5.out.row
    go_wp2_with fail
    generalize w5.alloc (.cells #[.int .i64 f.kind, .bool f.yes, .int .i64 f.n, .string f.s, .slice A2 f.keys.length c2, .slice B2 f.l.length d2] tJ) = w5v at *
    refine (HM.out _ _ _ x_5.out.jc u_5.out.jc).mono ?_
    rintro e w6 ⟨rfl, hb⟩
    have HB6 := Lib.hid (HB5.out.trans ((hb).mono HB5.out.size))
    have HW6 := Lib.hid (HW5.out.keep hb)
    have x_6 := Lib.hid (x_5.out.keep hb)
    have u_6 := Lib.hid (u_5.out.keep hb)
    clear hb
    obtain ⟨x6c0, x6c1, x6c2, x6c3, x6c4, x6c5⟩ := six_at x_6.out.row
    obtain ⟨u6c0, u6c1, u6c2, u6c3, u6c4, u6c5⟩ := six_at u_6.out.row
    go_wp2_with fail
    refine (HRt.out _ _ x_6.out.jc HW6.out).mono ?_
    rintro e w7 ⟨rfl, hb⟩
    have HB7 := Lib.hid (HB6.out.trans ((hb).mono HB6.out.size))
    have HW7 := Lib.hid (HW6.out.keep hb)
    have x_7 := Lib.hid (x_6.out.keep hb)
    have u_7 := Lib.hid (u_6.out.keep hb)
    clear hb
    go_wp2_with fail
    go_ret
    exact ⟨rfl, HB7.out⟩
end Go.Proofs.YtamclieppbnpiaaGreatDoor
