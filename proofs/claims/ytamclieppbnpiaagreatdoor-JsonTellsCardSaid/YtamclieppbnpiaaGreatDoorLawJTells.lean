/-
  The law JsonTells: true.
-/
import Derived.Test.YtamclieppbnpiaaGreatDoorProg
import Derived.Test.YtamclieppbnpiaaGreatDoorReg
import Derived.WalkKit
import Derived.WalkSpells
import Derived.WalkLawsBesides
import Derived.Lib.Hide
import Derived.Lib.MinMax
import Derived.Deep.QuietTactic
import Derived.BigQuiet
import Derived.OwnWalk
import Derived.Deep.AppendLies
import Derived.KernelRfl
import Derived.Test.YtamclieppbnpiaaGreatDoorJtE
set_option linter.unusedSimpArgs false
set_option linter.unusedVariables false
namespace Go.Proofs.YtamclieppbnpiaaGreatDoor
open Go Go.RowKit Go.Maps

set_option maxRecDepth 100000 in
set_option maxHeartbeats 8000000 in
theorem jsonTells_any (a : Addr) (x y : Js) (cs ds : List Value) (s : ByteArray) (w : World) (ho : okJ maxLen x) (hoy : okJ maxLen y) (hs : s.size ≤ maxLen) (hJx : JC w x cs) (hJy : JC w y ds) (hW : WJ a w) : Calls Tryz.prog 4 #[.agg cs.toArray, .agg ds.toArray, .string s] w fun e w' => e = .returned (.bool true) ∧ Below w.heap.size w w' := by
  obtain ⟨A0, c0, B0, d0, rfl, -⟩ := JC_iff.1 hJx
  obtain ⟨A8, c8, B8, d8, rfl, -⟩ := JC_iff.1 hJy
  have hb1 := below_new w (.cells #[.int .i64 x.kind, .bool x.yes, .int .i64 x.n, .string x.s, .slice A0 x.keys.length c0, .slice B0 x.l.length d0] tJ)
  have hb2 := below_new (w.alloc (.cells #[.int .i64 x.kind, .bool x.yes, .int .i64 x.n, .string x.s, .slice A0 x.keys.length c0, .slice B0 x.l.length d0] tJ)) (.cells #[.int .i64 y.kind, .bool y.yes, .int .i64 y.n, .string y.s, .slice A8 y.keys.length c8, .slice B8 y.l.length d8] tJ)
  have hb0 := hb1.trans (hb2.mono hb1.size)
  have hz1 : (w.alloc (.cells #[.int .i64 x.kind, .bool x.yes, .int .i64 x.n, .string x.s, .slice A0 x.keys.length c0, .slice B0 x.l.length d0] tJ)).heap.size = w.heap.size + 1 := by simp
  have hvx := (VarAt.new hJx).keep hb2
  have hvy := VarAt.new (hJy.keep hb1)
  have HS := Lib.hid (shown_any a _ (hW.keep hb0))
  have HW := Lib.hid hW
  have HFx := Lib.hid (fun W cs h => few4_any x ho cs W h)
  have HFy := Lib.hid (fun W cs h => few4_any y hoy cs W h)
  have hok := okJ.mono (M := 50) (N := 100) (by omega) _ (few_ok 4 x ho)
  have hoky := okJ.mono (M := 50) (N := 100) (by omega) _ (few_ok 4 y hoy)
  have hlen := few_text4 ho
  have hsz := headS_size 50 s
  have hl : (headS 50 s).data.toList.length = (headS 50 s).size := Array.length_toList
  have e1 := bs_of (headS 50 s)
  have HSh := Lib.hid (fun W => short_any s W hs)
  have HPr := Lib.hid (fun W cs h1 h2 => Print_any a 100 (by omega) (fewJ 4 x) hok (fun _ => by omega) cs W h1 h2)
  have HRPr := Lib.hid (fun W cs h1 => RPrint_any 100 (by omega) (fewJ 4 x) hok (fun _ => by omega) cs W h1)
  have HG := Lib.hid (fun cs W h D h2 h3 => GetD_any 100 (by omega) (fewJ 4 x) hok (headS 50 s) cs W h D h2 h3)
  have HRG := Lib.hid (fun cs W h D h2 h3 => RGetD_any 100 (by omega) (fewJ 4 x) hok (headS 50 s) cs W h D h2 h3)
  have HQ := Lib.hid (fun W h => Quote_any a (headS 50 s).data.toList W (by omega) h)
  have HRQ := Lib.hid (fun W => RQuote_any (headS 50 s).data.toList W (by omega))
  rw [e1] at HQ HRQ
  have HRt := Lib.hid (fun W cs h1 h2 => Right_any a 100 (by omega) (fewJ 4 x) hok cs W h1 h2)
  have HRRt := Lib.hid (fun W cs h1 => RRight_any 100 (by omega) (fewJ 4 x) hok cs W h1)
  have hoI := item_ok (key := headS 50 s) hok
  have HSI := Lib.hid (fun W cs ds h1 h2 => RSame_any 100 (by omega) _ _ hoI hoI cs ds W h1 h2)
  rw [sameJ_iff.2 rfl] at HSI
  have HM := Lib.hid (fun W cs ds h1 h2 => Same_any 100 (by omega) (fewJ 4 x) (fewJ 4 y) hok hoky cs ds W h1 h2)
  have HRM := Lib.hid (fun W cs ds h1 h2 => RSame_any 100 (by omega) (fewJ 4 x) (fewJ 4 y) hok hoky cs ds W h1 h2)
  have HMM := Lib.hid (fun W cs ds h1 h2 => Same_any 100 (by omega) (fewJ 4 x) (fewJ 4 x) hok hok cs ds W h1 h2)
  rw [sameJ_iff.2 rfl] at HMM
  have HB1 := Lib.hid hb0
  have HW1 := Lib.hid (hW.keep hb0)
  have x_1 : Hid (VarAt _ w.heap.size x A0 c0 B0 d0) := Lib.hid hvx
  have y_1 : Hid (VarAt _ (w.heap.size + 1) y A8 c8 B8 d8) := Lib.hid (by rw [hz1] at hvy; exact hvy)
  have HJy := Lib.hid hJy
  clear hW hb0 hb1 hb2 hvx hvy hok hoky hlen hsz hl e1 hoI hz1
  generalize sameJ (fewJ 4 x) (fewJ 4 y) = sm at *
  generalize rightJ 64 (fewJ 4 x) = rt at *
  generalize bs (if rt = true then jtext (fewJ 4 x) else []) = tx at *
  generalize (if rt = true then (0 : Int) else 150) = ec at *
  generalize bs (if Lib.validD (headS 50 s).data.toList = true then quoteL (headS 50 s).data.toList else []) = tq at *
  generalize Lib.validD (headS 50 s).data.toList = vd at *
  generalize getJ (fewJ 4 x) (headS 50 s) = O at *
  generalize headS 50 s = t at *
  generalize hF : fewJ 4 x = f at *
  generalize hG : fewJ 4 y = g at *
  clear hF hG
  obtain ⟨i0, i1, i2, i3, i4, i5⟩ := six_at x_1.out.row
  obtain ⟨j0, j1, j2, j3, j4, j5⟩ := six_at y_1.out.row
  go_enter Tryz.func4, Tryz.ntmps4
  go_wp2_with fail
  generalize (w.alloc (.cells #[.int .i64 x.kind, .bool x.yes, .int .i64 x.n, .string x.s, .slice A0 x.keys.length c0, .slice B0 x.l.length d0] tJ)).alloc (.cells #[.int .i64 y.kind, .bool y.yes, .int .i64 y.n, .string y.s, .slice A8 y.keys.length c8, .slice B8 y.l.length d8] tJ) = W0 at *
  refine (HS.out).mono ?_
  rintro e w1 ⟨rfl, hb⟩
  have HB2 := Lib.hid (HB1.out.trans ((hb).mono HB1.out.size))
  have HW2 := Lib.hid (HW1.out.keep hb)
  have x_2 := Lib.hid (x_1.out.keep hb)
  have y_2 := Lib.hid (y_1.out.keep hb)
  clear hb
  obtain ⟨x2c0, x2c1, x2c2, x2c3, x2c4, x2c5⟩ := six_at x_2.out.row
  obtain ⟨y2c0, y2c1, y2c2, y2c3, y2c4, y2c5⟩ := six_at y_2.out.row
  go_wp2_with fail
  refine (HFx.out _ _ x_2.out.jc).mono ?_
  rintro e w2 ⟨hf, hb⟩
  obtain ⟨A1, c1, B1, d1, rfl, hJ⟩ := hf.six
  have hBn := HB2.out.trans (hb.mono HB2.out.size)
  have hrow := (hb.block _ x_2.out.lt).trans x_2.out.row
  obtain ⟨w2s, hw2s⟩ : ∃ W', W' = ((((((w2.setCell ⟨w.heap.size, 0, none⟩ (.int .i64 f.kind)).setCell ⟨w.heap.size, 1, none⟩ (.bool f.yes)).setCell ⟨w.heap.size, 2, none⟩ (.int .i64 f.n)).setCell ⟨w.heap.size, 3, none⟩ (.string f.s)).setCell ⟨w.heap.size, 4, none⟩ (.slice A1 f.keys.length c1)).setCell ⟨w.heap.size, 5, none⟩ (.slice B1 f.l.length d1)) := ⟨_, rfl⟩
  obtain ⟨q1, q2, q3, q4⟩ := few_store hBn hrow (by omega) hJ x_2.out.lt w2s hw2s
  have HB3 := Lib.hid q1
  have HW3 := Lib.hid (HW.out.keep q1)
  have x_3 := Lib.hid q2
  have JDx_3 := Lib.hid (hJ.stay (fun k hk => q4 k (by have := hk.1; have := x_2.out.lt; omega)))
  have y_3 : Hid (VarAt w2s (w.heap.size + 1) y A8 c8 B8 d8) := Lib.hid ⟨(q4 _ (by omega)).trans ((hb.block _ y_2.out.lt).trans y_2.out.row), HJy.out.keep q1⟩
  obtain ⟨r0, r1, r2, r3, r4, r5⟩ := six_at hrow
  have rz := fun j => frozen_of_row w2 _ j _ _ hrow
  have rl := (Array.getElem?_eq_some_iff.1 hrow).1
  have hsw2s := q3
  clear hf hb hJ hBn hrow q1 q2 q3 q4
  go_upto_region 3 with fail
  rw [← hw2s]
  clear hw2s r0 r1 r2 r3 r4 r5 rz rl
  obtain ⟨y3c0, y3c1, y3c2, y3c3, y3c4, y3c5⟩ := six_at y_3.out.row
  obtain ⟨x3c0, x3c1, x3c2, x3c3, x3c4, x3c5⟩ := six_at x_3.out.row
  go_wp2_with fail
  have l3 := x_3.out.lt
  have l4 := y_3.out.lt
  have l2 := y_2.out.lt
  refine (HFy.out _ _ y_3.out.jc).mono ?_
  rintro e w3 ⟨hf, hb⟩
  obtain ⟨A2, c2, B2, d2, rfl, hJ⟩ := hf.six
  have hBn := HB3.out.trans (hb.mono HB3.out.size)
  have hrow := (hb.block _ y_3.out.lt).trans y_3.out.row
  obtain ⟨w3s, hw3s⟩ : ∃ W', W' = ((((((w3.setCell ⟨w.heap.size + 1, 0, none⟩ (.int .i64 g.kind)).setCell ⟨w.heap.size + 1, 1, none⟩ (.bool g.yes)).setCell ⟨w.heap.size + 1, 2, none⟩ (.int .i64 g.n)).setCell ⟨w.heap.size + 1, 3, none⟩ (.string g.s)).setCell ⟨w.heap.size + 1, 4, none⟩ (.slice A2 g.keys.length c2)).setCell ⟨w.heap.size + 1, 5, none⟩ (.slice B2 g.l.length d2)) := ⟨_, rfl⟩
  obtain ⟨q1, q2, q3, q4⟩ := few_store hBn hrow (by omega) hJ y_3.out.lt w3s hw3s
  have HB4 := Lib.hid q1
  have HW4 := Lib.hid (HW.out.keep q1)
  have y_4 := Lib.hid q2
  have JDy_4 := Lib.hid (hJ.stay (fun k hk => q4 k (by have := hk.1; have := y_3.out.lt; omega)))
  have x_4 : Hid (VarAt w3s (w.heap.size) f A1 c1 B1 d1) := Lib.hid ⟨(q4 _ (by omega)).trans ((hb.block _ x_3.out.lt).trans x_3.out.row), JDx_3.out _ (fun k hk => (q4 k (by have := hk.1; omega)).trans (hb.block k (by have := hk.2; omega)))⟩
  obtain ⟨r0, r1, r2, r3, r4, r5⟩ := six_at hrow
  have rz := fun j => frozen_of_row w3 _ j _ _ hrow
  have rl := (Array.getElem?_eq_some_iff.1 hrow).1
  have hsw3s := q3
  clear hf hb hJ hBn hrow q1 q2 q3 q4
  go_upto_region 4 with fail
  rw [← hw3s]
  clear hw3s r0 r1 r2 r3 r4 r5 rz rl
  clear l2 l3 l4 hsw2s hsw3s JDx_3 JDy_4
  obtain ⟨x4c0, x4c1, x4c2, x4c3, x4c4, x4c5⟩ := six_at x_4.out.row
  obtain ⟨y4c0, y4c1, y4c2, y4c3, y4c4, y4c5⟩ := six_at y_4.out.row
  go_wp2_with fail
  refine (HPr.out _ _ x_4.out.jc HW4.out).mono ?_
  rintro e w4 ⟨rfl, hb⟩
  have HB5 := Lib.hid (HB4.out.trans ((hb).mono HB4.out.size))
  have HW5 := Lib.hid (HW4.out.keep hb)
  have y_5 := Lib.hid (y_4.out.keep hb)
  have x_5 := Lib.hid (x_4.out.keep hb)
  clear hb
  obtain ⟨x5c0, x5c1, x5c2, x5c3, x5c4, x5c5⟩ := six_at x_5.out.row
  obtain ⟨y5c0, y5c1, y5c2, y5c3, y5c4, y5c5⟩ := six_at y_5.out.row
  go_wp2_with fail
  refine (HRPr.out _ _ x_5.out.jc).mono ?_
  rintro e w5 ⟨rfl, hb⟩
  have HB6 := Lib.hid (HB5.out.trans ((hb).mono HB5.out.size))
  have HW6 := Lib.hid (HW5.out.keep hb)
  have y_6 := Lib.hid (y_5.out.keep hb)
  have x_6 := Lib.hid (x_5.out.keep hb)
  clear hb
  go_upto_region 6 with fail
  have hk6 := six_at x_6.out.row
  have hkL := x_6.out.jc.items
  go_cut [12, 13] from 12 to 41 (fun p ok wx => ItemAt w5 O p ok wx)
  case first =>
    have hdz : w5.drew.heap.size = w5.heap.size := rfl
    refine wp_region_alloc2 (S := fun w' => w'.cell? ⟨w.heap.size, 0, none⟩ = some (.int .i64 f.kind) ∧ w'.cell? ⟨w.heap.size, 1, none⟩ = some (.bool f.yes) ∧ w'.cell? ⟨w.heap.size, 2, none⟩ = some (.int .i64 f.n) ∧ w'.cell? ⟨w.heap.size, 3, none⟩ = some (.string f.s) ∧ w'.cell? ⟨w.heap.size, 4, none⟩ = some (.slice A1 f.keys.length c1) ∧ w'.cell? ⟨w.heap.size, 5, none⟩ = some (.slice B1 f.l.length d1)) [0, 1] 2 3 7 [4, 5, 6] [8, 9] (by kernel_rfl) (by kernel_rfl) (fun _ _ _ _ _ h => h) hk6 ?_
    simp only [pick, List.filterMap_cons, List.filterMap_nil, List.getElem?_toArray, List.getElem?_cons_zero, List.getElem?_cons_succ]
    repeat (refine wpHead_step (v := ?_) rfl ?_ ?_; rotate_left; (focus (rintro w1 ⟨z0, z1, z2, z3, z4, z5⟩; go_simp; try with_reducible rfl)); simp only [Act.put, List.setIfInBounds_toArray, List.set_cons_zero, List.set_cons_succ])
    refine wpHead_nil ⟨?_, ?_⟩
    · skip
      refine wpTailK_step rfl (fun K hK => ?_)
      go_wp2_with fail
      refine (HSh.out _).mono ?_
      rintro e w9 ⟨rfl, hw⟩
      subst w9
      refine hK _ _ hk6 ?_
      clear hK K
      try simp only [Act.put, List.setIfInBounds_toArray, List.set_cons_zero, List.set_cons_succ]
      refine wpTailK_nil ⟨?_, ?_⟩
      · skip
        have hbw := below_drew w5
        refine wpTailK_step rfl (fun K hK => ?_)
        go_wp2_with fail
        refine (HG.out _ w5.drew (x_6.out.jc.keep hbw) (fun b => b < w5.heap.size) (fun B d e => by cases e; exact holdsD_of hbw hkL) (fun b hb => Nat.lt_of_lt_of_le hb hbw.size)).mono ?_
        rintro e w2 ⟨hg, hb⟩
        obtain ⟨A9, c9, B9, d9, rfl, hJ9⟩ := hg.six
        have hb2 := hbw.trans (hb.mono hbw.size)
        refine hK _ _ (six_at ((x_6.out.keep hb2).row)) ?_
        clear hK K
        try simp only [Act.put, List.setIfInBounds_toArray, List.set_cons_zero, List.set_cons_succ]
        refine wpTailK_nil ?_
        repeat (refine wpHead_step (v := ?_) rfl ?_ ?_; rotate_left; (focus (rintro w1 ⟨z0, z1, z2, z3, z4, z5⟩; go_simp; try with_reducible rfl)); simp only [Act.put, List.setIfInBounds_toArray, List.set_cons_zero, List.set_cons_succ])
        refine wpHead_nil ?_
        have hz2 := hb2.trans ((below_new w2 (.cells #[.int .i64 0, .bool false, .int .i64 0, .string ⟨#[]⟩, .slice none 0 0, .slice none 0 0] tJ)).mono hb2.size)
        have hz3 := hb2.trans ((below_new w2 (.cells #[.int .i64 (O.getD noJs).kind, .bool (O.getD noJs).yes, .int .i64 (O.getD noJs).n, .string (O.getD noJs).s, .slice A9 (O.getD noJs).keys.length c9, .slice B9 (O.getD noJs).l.length d9] tJ)).mono hb2.size)
        refine wpTail_step rfl (fun K hK => ?_)
        go_wp2_with fail
        refine hK _ _ (six_at ((x_6.out.keep hz2).row)) ?_
        clear hK K
        try simp only [Act.put, List.setIfInBounds_toArray, List.set_cons_zero, List.set_cons_succ]
        refine wpTail_step rfl (fun K hK => ?_)
        go_wp2_with fail
        refine hK _ _ (six_at ((x_6.out.keep hz3).row)) ?_
        clear hK K
        try simp only [Act.put, List.setIfInBounds_toArray, List.set_cons_zero, List.set_cons_succ]
        refine wpTail_step rfl (fun K hK => ?_)
        go_wp2_with fail
        refine hK _ _ (six_at ((x_6.out.keep hz3).row)) ?_
        clear hK K
        try simp only [Act.put, List.setIfInBounds_toArray, List.set_cons_zero, List.set_cons_succ]
        refine wpTail_nil ?_
        go_wp2_with fail
        go_meet
        exact item_new hb2 hJ9
      · skip
        have hbw := (below_drew w5).trans ((below_new w5.drew (.cells #[.int .i64 0, .bool false, .int .i64 0, .string ⟨#[]⟩, .slice none 0 0, .slice none 0 0] tJ)).mono (Nat.le_refl _))
        have hr0 := heap_alloc_new w5.drew (.cells #[.int .i64 0, .bool false, .int .i64 0, .string ⟨#[]⟩, .slice none 0 0, .slice none 0 0] tJ)
        have hzw : (w5.drew.alloc (.cells #[.int .i64 0, .bool false, .int .i64 0, .string ⟨#[]⟩, .slice none 0 0, .slice none 0 0] tJ)).heap.size = w5.heap.size + 1 := by simp
        refine wpTailK_step rfl (fun K hK => ?_)
        go_wp2_with fail
        refine hK _ _ (six_at ((x_6.out.keep hbw).row)) ?_
        clear hK K
        try simp only [Act.put, List.setIfInBounds_toArray, List.set_cons_zero, List.set_cons_succ]
        refine wpTailK_step rfl (fun K hK => ?_)
        go_wp2_with fail
        refine (HG.out _ (w5.drew.alloc (.cells #[.int .i64 0, .bool false, .int .i64 0, .string ⟨#[]⟩, .slice none 0 0, .slice none 0 0] tJ)) (x_6.out.jc.keep hbw) (fun b => b < w5.heap.size) (fun B d e => by cases e; exact holdsD_of hbw hkL) (fun b hb => Nat.lt_of_lt_of_le hb hbw.size)).mono ?_
        rintro e w2 ⟨hg, hb⟩
        obtain ⟨A9, c9, B9, d9, rfl, hJ9⟩ := hg.six
        have hb2 := hbw.trans (hb.mono hbw.size)
        refine hK _ _ (six_at ((x_6.out.keep hb2).row)) ?_
        clear hK K
        try simp only [Act.put, List.setIfInBounds_toArray, List.set_cons_zero, List.set_cons_succ]
        refine wpTailK_nil ?_
        repeat (refine wpHead_step (v := ?_) rfl ?_ ?_; rotate_left; (focus (rintro w1 ⟨z0, z1, z2, z3, z4, z5⟩; go_simp; try with_reducible rfl)); simp only [Act.put, List.setIfInBounds_toArray, List.set_cons_zero, List.set_cons_succ])
        refine wpHead_nil ?_
        have hr2 : w2.heap[w5.heap.size]? = _ := (hb.block w5.heap.size (by rw [hzw]; omega)).trans hr0
        have hI := item_old (o := O) (A := A9) (c := c9) (B := B9) (d := d9) hb2 hr2 (Nat.le_refl _) hJ9
        have hz3 := below6 (m := w5.heap.size) hb2 (R := w5.heap.size) (Nat.le_refl _) (.int .i64 (O.getD noJs).kind) (.bool (O.getD noJs).yes) (.int .i64 (O.getD noJs).n) (.string (O.getD noJs).s) (.slice A9 (O.getD noJs).keys.length c9) (.slice B9 (O.getD noJs).l.length d9)
        obtain ⟨t0, t1, t2, t3, t4, t5⟩ := six_at hr2
        have tz := fun j => frozen_of_row w2 _ j _ _ hr2
        have tl := (Array.getElem?_eq_some_iff.1 hr2).1
        refine wpTail_step rfl (fun K hK => ?_)
        go_wp2_with fail
        refine hK _ _ (six_at ((x_6.out.keep hz3).row)) ?_
        clear hK K
        try simp only [Act.put, List.setIfInBounds_toArray, List.set_cons_zero, List.set_cons_succ]
        refine wpTail_step rfl (fun K hK => ?_)
        go_wp2_with fail
        refine hK _ _ (six_at ((x_6.out.keep hz3).row)) ?_
        clear hK K
        try simp only [Act.put, List.setIfInBounds_toArray, List.set_cons_zero, List.set_cons_succ]
        refine wpTail_nil ?_
        go_wp2_with fail
        go_meet
        exact hI
    · skip
      have hbw := (below_drew w5).trans ((below_new w5.drew (.cells #[.int .i64 0, .bool false, .int .i64 0, .string ⟨#[]⟩, .slice none 0 0, .slice none 0 0] tJ)).mono (Nat.le_refl _))
      have hr0 := heap_alloc_new w5.drew (.cells #[.int .i64 0, .bool false, .int .i64 0, .string ⟨#[]⟩, .slice none 0 0, .slice none 0 0] tJ)
      have hzw : (w5.drew.alloc (.cells #[.int .i64 0, .bool false, .int .i64 0, .string ⟨#[]⟩, .slice none 0 0, .slice none 0 0] tJ)).heap.size = w5.heap.size + 1 := by simp
      refine wpTailK_step rfl (fun K hK => ?_)
      go_wp2_with fail
      refine hK _ _ (six_at ((x_6.out.keep hbw).row)) ?_
      clear hK K
      try simp only [Act.put, List.setIfInBounds_toArray, List.set_cons_zero, List.set_cons_succ]
      refine wpTailK_step rfl (fun K hK => ?_)
      go_wp2_with fail
      refine (HSh.out _).mono ?_
      rintro e w9 ⟨rfl, hw⟩
      subst w9
      refine hK _ _ (six_at ((x_6.out.keep hbw).row)) ?_
      clear hK K
      try simp only [Act.put, List.setIfInBounds_toArray, List.set_cons_zero, List.set_cons_succ]
      refine wpTailK_step rfl (fun K hK => ?_)
      go_wp2_with fail
      refine (HG.out _ (w5.drew.alloc (.cells #[.int .i64 0, .bool false, .int .i64 0, .string ⟨#[]⟩, .slice none 0 0, .slice none 0 0] tJ)) (x_6.out.jc.keep hbw) (fun b => b < w5.heap.size) (fun B d e => by cases e; exact holdsD_of hbw hkL) (fun b hb => Nat.lt_of_lt_of_le hb hbw.size)).mono ?_
      rintro e w2 ⟨hg, hb⟩
      obtain ⟨A9, c9, B9, d9, rfl, hJ9⟩ := hg.six
      have hb2 := hbw.trans (hb.mono hbw.size)
      refine hK _ _ (six_at ((x_6.out.keep hb2).row)) ?_
      clear hK K
      try simp only [Act.put, List.setIfInBounds_toArray, List.set_cons_zero, List.set_cons_succ]
      refine wpTailK_nil ?_
      repeat (refine wpHead_step (v := ?_) rfl ?_ ?_; rotate_left; (focus (rintro w1 ⟨z0, z1, z2, z3, z4, z5⟩; go_simp; try with_reducible rfl)); simp only [Act.put, List.setIfInBounds_toArray, List.set_cons_zero, List.set_cons_succ])
      refine wpHead_nil ?_
      have hr2 : w2.heap[w5.heap.size]? = _ := (hb.block w5.heap.size (by rw [hzw]; omega)).trans hr0
      have hI := item_old (o := O) (A := A9) (c := c9) (B := B9) (d := d9) hb2 hr2 (Nat.le_refl _) hJ9
      have hz3 := below6 (m := w5.heap.size) hb2 (R := w5.heap.size) (Nat.le_refl _) (.int .i64 (O.getD noJs).kind) (.bool (O.getD noJs).yes) (.int .i64 (O.getD noJs).n) (.string (O.getD noJs).s) (.slice A9 (O.getD noJs).keys.length c9) (.slice B9 (O.getD noJs).l.length d9)
      obtain ⟨t0, t1, t2, t3, t4, t5⟩ := six_at hr2
      have tz := fun j => frozen_of_row w2 _ j _ _ hr2
      have tl := (Array.getElem?_eq_some_iff.1 hr2).1
      refine wpTail_step rfl (fun K hK => ?_)
      go_wp2_with fail
      refine hK _ _ (six_at ((x_6.out.keep hz3).row)) ?_
      clear hK K
      try simp only [Act.put, List.setIfInBounds_toArray, List.set_cons_zero, List.set_cons_succ]
      refine wpTail_step rfl (fun K hK => ?_)
      go_wp2_with fail
      refine hK _ _ (six_at ((x_6.out.keep hz3).row)) ?_
      clear hK K
      try simp only [Act.put, List.setIfInBounds_toArray, List.set_cons_zero, List.set_cons_succ]
      refine wpTail_nil ?_
      go_wp2_with fail
      go_meet
      exact hI
  case rest =>
  obtain ⟨bk7, A5, c5, B5, d5, rfl, rfl, hv, hb⟩ := hcut

  have HB7 := Lib.hid (HB6.out.trans ((hb).mono HB6.out.size))
  have HW7 := Lib.hid (HW6.out.keep hb)
  have y_7 := Lib.hid (y_6.out.keep hb)
  have x_7 := Lib.hid (x_6.out.keep hb)
  have p_7 := Lib.hid hv
  clear hb hv hk6 hkL
  go_upto_region 7 with fail
  have hk6 := six_at x_7.out.row
  have hkL := x_7.out.jc.items
  go_cut [14, 15] from 14 to 48 (fun p ok wx => ItemAt wc O p ok wx)
  case first =>
    have hdz : wc.drew.heap.size = wc.heap.size := rfl
    refine wp_region_alloc2 (S := fun w' => w'.cell? ⟨w.heap.size, 0, none⟩ = some (.int .i64 f.kind) ∧ w'.cell? ⟨w.heap.size, 1, none⟩ = some (.bool f.yes) ∧ w'.cell? ⟨w.heap.size, 2, none⟩ = some (.int .i64 f.n) ∧ w'.cell? ⟨w.heap.size, 3, none⟩ = some (.string f.s) ∧ w'.cell? ⟨w.heap.size, 4, none⟩ = some (.slice A1 f.keys.length c1) ∧ w'.cell? ⟨w.heap.size, 5, none⟩ = some (.slice B1 f.l.length d1)) [0, 1] 2 3 7 [4, 5, 6] [8, 9] (by kernel_rfl) (by kernel_rfl) (fun _ _ _ _ _ h => h) hk6 ?_
    simp only [pick, List.filterMap_cons, List.filterMap_nil, List.getElem?_toArray, List.getElem?_cons_zero, List.getElem?_cons_succ]
    repeat (refine wpHead_step (v := ?_) rfl ?_ ?_; rotate_left; (focus (rintro w1 ⟨z0, z1, z2, z3, z4, z5⟩; go_simp; try with_reducible rfl)); simp only [Act.put, List.setIfInBounds_toArray, List.set_cons_zero, List.set_cons_succ])
    refine wpHead_nil ⟨?_, ?_⟩
    · skip
      refine wpTailK_step rfl (fun K hK => ?_)
      go_wp2_with fail
      refine (HSh.out _).mono ?_
      rintro e w9 ⟨rfl, hw⟩
      subst w9
      refine hK _ _ hk6 ?_
      clear hK K
      try simp only [Act.put, List.setIfInBounds_toArray, List.set_cons_zero, List.set_cons_succ]
      refine wpTailK_nil ⟨?_, ?_⟩
      · skip
        have hbw := below_drew wc
        refine wpTailK_step rfl (fun K hK => ?_)
        go_wp2_with fail
        refine (HRG.out _ wc.drew (x_7.out.jc.keep hbw) (fun b => b < wc.heap.size) (fun B d e => by cases e; exact holdsD_of hbw hkL) (fun b hb => Nat.lt_of_lt_of_le hb hbw.size)).mono ?_
        rintro e w2 ⟨hg, hb⟩
        obtain ⟨A9, c9, B9, d9, rfl, hJ9⟩ := hg.six
        have hb2 := hbw.trans (hb.mono hbw.size)
        refine hK _ _ (six_at ((x_7.out.keep hb2).row)) ?_
        clear hK K
        try simp only [Act.put, List.setIfInBounds_toArray, List.set_cons_zero, List.set_cons_succ]
        refine wpTailK_nil ?_
        repeat (refine wpHead_step (v := ?_) rfl ?_ ?_; rotate_left; (focus (rintro w1 ⟨z0, z1, z2, z3, z4, z5⟩; go_simp; try with_reducible rfl)); simp only [Act.put, List.setIfInBounds_toArray, List.set_cons_zero, List.set_cons_succ])
        refine wpHead_nil ?_
        have hz2 := hb2.trans ((below_new w2 (.cells #[.int .i64 0, .bool false, .int .i64 0, .string ⟨#[]⟩, .slice none 0 0, .slice none 0 0] tJ)).mono hb2.size)
        have hz3 := hb2.trans ((below_new w2 (.cells #[.int .i64 (O.getD noJs).kind, .bool (O.getD noJs).yes, .int .i64 (O.getD noJs).n, .string (O.getD noJs).s, .slice A9 (O.getD noJs).keys.length c9, .slice B9 (O.getD noJs).l.length d9] tJ)).mono hb2.size)
        refine wpTail_step rfl (fun K hK => ?_)
        go_wp2_with fail
        refine hK _ _ (six_at ((x_7.out.keep hz2).row)) ?_
        clear hK K
        try simp only [Act.put, List.setIfInBounds_toArray, List.set_cons_zero, List.set_cons_succ]
        refine wpTail_step rfl (fun K hK => ?_)
        go_wp2_with fail
        refine hK _ _ (six_at ((x_7.out.keep hz3).row)) ?_
        clear hK K
        try simp only [Act.put, List.setIfInBounds_toArray, List.set_cons_zero, List.set_cons_succ]
        refine wpTail_step rfl (fun K hK => ?_)
        go_wp2_with fail
        refine hK _ _ (six_at ((x_7.out.keep hz3).row)) ?_
        clear hK K
        try simp only [Act.put, List.setIfInBounds_toArray, List.set_cons_zero, List.set_cons_succ]
        refine wpTail_nil ?_
        go_wp2_with fail
        go_meet
        exact item_new hb2 hJ9
      · skip
        have hbw := (below_drew wc).trans ((below_new wc.drew (.cells #[.int .i64 0, .bool false, .int .i64 0, .string ⟨#[]⟩, .slice none 0 0, .slice none 0 0] tJ)).mono (Nat.le_refl _))
        have hr0 := heap_alloc_new wc.drew (.cells #[.int .i64 0, .bool false, .int .i64 0, .string ⟨#[]⟩, .slice none 0 0, .slice none 0 0] tJ)
        have hzw : (wc.drew.alloc (.cells #[.int .i64 0, .bool false, .int .i64 0, .string ⟨#[]⟩, .slice none 0 0, .slice none 0 0] tJ)).heap.size = wc.heap.size + 1 := by simp
        refine wpTailK_step rfl (fun K hK => ?_)
        go_wp2_with fail
        refine hK _ _ (six_at ((x_7.out.keep hbw).row)) ?_
        clear hK K
        try simp only [Act.put, List.setIfInBounds_toArray, List.set_cons_zero, List.set_cons_succ]
        refine wpTailK_step rfl (fun K hK => ?_)
        go_wp2_with fail
        refine (HRG.out _ (wc.drew.alloc (.cells #[.int .i64 0, .bool false, .int .i64 0, .string ⟨#[]⟩, .slice none 0 0, .slice none 0 0] tJ)) (x_7.out.jc.keep hbw) (fun b => b < wc.heap.size) (fun B d e => by cases e; exact holdsD_of hbw hkL) (fun b hb => Nat.lt_of_lt_of_le hb hbw.size)).mono ?_
        rintro e w2 ⟨hg, hb⟩
        obtain ⟨A9, c9, B9, d9, rfl, hJ9⟩ := hg.six
        have hb2 := hbw.trans (hb.mono hbw.size)
        refine hK _ _ (six_at ((x_7.out.keep hb2).row)) ?_
        clear hK K
        try simp only [Act.put, List.setIfInBounds_toArray, List.set_cons_zero, List.set_cons_succ]
        refine wpTailK_nil ?_
        repeat (refine wpHead_step (v := ?_) rfl ?_ ?_; rotate_left; (focus (rintro w1 ⟨z0, z1, z2, z3, z4, z5⟩; go_simp; try with_reducible rfl)); simp only [Act.put, List.setIfInBounds_toArray, List.set_cons_zero, List.set_cons_succ])
        refine wpHead_nil ?_
        have hr2 : w2.heap[wc.heap.size]? = _ := (hb.block wc.heap.size (by rw [hzw]; omega)).trans hr0
        have hI := item_old (o := O) (A := A9) (c := c9) (B := B9) (d := d9) hb2 hr2 (Nat.le_refl _) hJ9
        have hz3 := below6 (m := wc.heap.size) hb2 (R := wc.heap.size) (Nat.le_refl _) (.int .i64 (O.getD noJs).kind) (.bool (O.getD noJs).yes) (.int .i64 (O.getD noJs).n) (.string (O.getD noJs).s) (.slice A9 (O.getD noJs).keys.length c9) (.slice B9 (O.getD noJs).l.length d9)
        obtain ⟨t0, t1, t2, t3, t4, t5⟩ := six_at hr2
        have tz := fun j => frozen_of_row w2 _ j _ _ hr2
        have tl := (Array.getElem?_eq_some_iff.1 hr2).1
        refine wpTail_step rfl (fun K hK => ?_)
        go_wp2_with fail
        refine hK _ _ (six_at ((x_7.out.keep hz3).row)) ?_
        clear hK K
        try simp only [Act.put, List.setIfInBounds_toArray, List.set_cons_zero, List.set_cons_succ]
        refine wpTail_step rfl (fun K hK => ?_)
        go_wp2_with fail
        refine hK _ _ (six_at ((x_7.out.keep hz3).row)) ?_
        clear hK K
        try simp only [Act.put, List.setIfInBounds_toArray, List.set_cons_zero, List.set_cons_succ]
        refine wpTail_nil ?_
        go_wp2_with fail
        go_meet
        exact hI
    · skip
      have hbw := (below_drew wc).trans ((below_new wc.drew (.cells #[.int .i64 0, .bool false, .int .i64 0, .string ⟨#[]⟩, .slice none 0 0, .slice none 0 0] tJ)).mono (Nat.le_refl _))
      have hr0 := heap_alloc_new wc.drew (.cells #[.int .i64 0, .bool false, .int .i64 0, .string ⟨#[]⟩, .slice none 0 0, .slice none 0 0] tJ)
      have hzw : (wc.drew.alloc (.cells #[.int .i64 0, .bool false, .int .i64 0, .string ⟨#[]⟩, .slice none 0 0, .slice none 0 0] tJ)).heap.size = wc.heap.size + 1 := by simp
      refine wpTailK_step rfl (fun K hK => ?_)
      go_wp2_with fail
      refine hK _ _ (six_at ((x_7.out.keep hbw).row)) ?_
      clear hK K
      try simp only [Act.put, List.setIfInBounds_toArray, List.set_cons_zero, List.set_cons_succ]
      refine wpTailK_step rfl (fun K hK => ?_)
      go_wp2_with fail
      refine (HSh.out _).mono ?_
      rintro e w9 ⟨rfl, hw⟩
      subst w9
      refine hK _ _ (six_at ((x_7.out.keep hbw).row)) ?_
      clear hK K
      try simp only [Act.put, List.setIfInBounds_toArray, List.set_cons_zero, List.set_cons_succ]
      refine wpTailK_step rfl (fun K hK => ?_)
      go_wp2_with fail
      refine (HRG.out _ (wc.drew.alloc (.cells #[.int .i64 0, .bool false, .int .i64 0, .string ⟨#[]⟩, .slice none 0 0, .slice none 0 0] tJ)) (x_7.out.jc.keep hbw) (fun b => b < wc.heap.size) (fun B d e => by cases e; exact holdsD_of hbw hkL) (fun b hb => Nat.lt_of_lt_of_le hb hbw.size)).mono ?_
      rintro e w2 ⟨hg, hb⟩
      obtain ⟨A9, c9, B9, d9, rfl, hJ9⟩ := hg.six
      have hb2 := hbw.trans (hb.mono hbw.size)
      refine hK _ _ (six_at ((x_7.out.keep hb2).row)) ?_
      clear hK K
      try simp only [Act.put, List.setIfInBounds_toArray, List.set_cons_zero, List.set_cons_succ]
      refine wpTailK_nil ?_
      repeat (refine wpHead_step (v := ?_) rfl ?_ ?_; rotate_left; (focus (rintro w1 ⟨z0, z1, z2, z3, z4, z5⟩; go_simp; try with_reducible rfl)); simp only [Act.put, List.setIfInBounds_toArray, List.set_cons_zero, List.set_cons_succ])
      refine wpHead_nil ?_
      have hr2 : w2.heap[wc.heap.size]? = _ := (hb.block wc.heap.size (by rw [hzw]; omega)).trans hr0
      have hI := item_old (o := O) (A := A9) (c := c9) (B := B9) (d := d9) hb2 hr2 (Nat.le_refl _) hJ9
      have hz3 := below6 (m := wc.heap.size) hb2 (R := wc.heap.size) (Nat.le_refl _) (.int .i64 (O.getD noJs).kind) (.bool (O.getD noJs).yes) (.int .i64 (O.getD noJs).n) (.string (O.getD noJs).s) (.slice A9 (O.getD noJs).keys.length c9) (.slice B9 (O.getD noJs).l.length d9)
      obtain ⟨t0, t1, t2, t3, t4, t5⟩ := six_at hr2
      have tz := fun j => frozen_of_row w2 _ j _ _ hr2
      have tl := (Array.getElem?_eq_some_iff.1 hr2).1
      refine wpTail_step rfl (fun K hK => ?_)
      go_wp2_with fail
      refine hK _ _ (six_at ((x_7.out.keep hz3).row)) ?_
      clear hK K
      try simp only [Act.put, List.setIfInBounds_toArray, List.set_cons_zero, List.set_cons_succ]
      refine wpTail_step rfl (fun K hK => ?_)
      go_wp2_with fail
      refine hK _ _ (six_at ((x_7.out.keep hz3).row)) ?_
      clear hK K
      try simp only [Act.put, List.setIfInBounds_toArray, List.set_cons_zero, List.set_cons_succ]
      refine wpTail_nil ?_
      go_wp2_with fail
      go_meet
      exact hI
  case rest =>
  obtain ⟨bk8, A6, c6, B6, d6, rfl, rfl, hv, hb⟩ := hcut

  have HB8 := Lib.hid (HB7.out.trans ((hb).mono HB7.out.size))
  have HW8 := Lib.hid (HW7.out.keep hb)
  have y_8 := Lib.hid (y_7.out.keep hb)
  have x_8 := Lib.hid (x_7.out.keep hb)
  have p_8 := Lib.hid (p_7.out.keep hb)
  have q_8 := Lib.hid hv
  clear hb hv hk6 hkL
  go_wp2_with fail
  refine (HSh.out _).mono ?_
  rintro e w9 ⟨rfl, hw⟩
  subst w9
  go_wp2_with fail
  refine (HQ.out _ HW8.out).mono ?_
  rintro e w10 ⟨rfl, hb⟩
  have HB9 := Lib.hid (HB8.out.trans ((hb).mono HB8.out.size))
  have HW9 := Lib.hid (HW8.out.keep hb)
  have y_9 := Lib.hid (y_8.out.keep hb)
  have x_9 := Lib.hid (x_8.out.keep hb)
  have p_9 := Lib.hid (p_8.out.keep hb)
  have q_9 := Lib.hid (q_8.out.keep hb)
  clear hb
  go_wp2_with fail
  refine (HSh.out _).mono ?_
  rintro e w11 ⟨rfl, hw⟩
  subst w11
  go_wp2_with fail
  refine (HRQ.out _).mono ?_
  rintro e w12 ⟨rfl, hb⟩
  have HB10 := Lib.hid (HB9.out.trans ((hb).mono HB9.out.size))
  have HW10 := Lib.hid (HW9.out.keep hb)
  have y_10 := Lib.hid (y_9.out.keep hb)
  have x_10 := Lib.hid (x_9.out.keep hb)
  have p_10 := Lib.hid (p_9.out.keep hb)
  have q_10 := Lib.hid (q_9.out.keep hb)
  clear hb
  go_upto_region 10 with fail
  refine wp_region_fix (S := fun w' => Below w12.heap.size w12 w') (by kernel_rfl) (by kernel_rfl) (below_drew w12) ?_
  iterate 2 (refine wpFix_pure (v := ?_) (by rfl) ?_ ?_; rotate_left; (focus (intro w1 hb; go_simp; try with_reducible rfl)); simp only [Act.put, List.setIfInBounds_toArray, List.set_cons_zero, List.set_cons_succ])
  iterate 1 (refine wpFix_pure (v := ?_) (by rfl) ?_ ?_; rotate_left; (focus (intro w1 hb; obtain ⟨x0, x1, x2, x3, x4, x5⟩ := six_at ((x_10.out.keep hb).row); go_simp; try with_reducible rfl)); simp only [Act.put, List.setIfInBounds_toArray, List.set_cons_zero, List.set_cons_succ])
  refine wpFix_call (.bool rt) (by rfl) (fun w1 hb K Q hK => ?_) ?_
  · go_wp2_with fail
    refine (HRt.out _ _ (x_10.out.keep hb).jc (HW10.out.keep hb)).mono ?_
    rintro e w2 ⟨rfl, hb2⟩
    exact hK _ (hb.trans (hb2.mono hb.size))
  simp only [Act.put, List.setIfInBounds_toArray, List.set_cons_zero, List.set_cons_succ]
  iterate 1 (refine wpFix_pure (v := ?_) (by rfl) ?_ ?_; rotate_left; (focus (intro w1 hb; obtain ⟨x0, x1, x2, x3, x4, x5⟩ := six_at ((x_10.out.keep hb).row); go_simp; try with_reducible rfl)); simp only [Act.put, List.setIfInBounds_toArray, List.set_cons_zero, List.set_cons_succ])
  refine wpFix_call (.bool rt) (by rfl) (fun w1 hb K Q hK => ?_) ?_
  · go_wp2_with fail
    refine (HRRt.out _ _ (x_10.out.keep hb).jc).mono ?_
    rintro e w2 ⟨rfl, hb2⟩
    exact hK _ (hb.trans (hb2.mono hb.size))
  simp only [Act.put, List.setIfInBounds_toArray, List.set_cons_zero, List.set_cons_succ]
  refine wpFix_pure (v := .bool true) (by rfl) (fun w1 hb => ?_) ?_
  · go_simp
  simp only [Act.put, List.setIfInBounds_toArray, List.set_cons_zero, List.set_cons_succ]
  iterate 4 (refine wpFix_pure (v := ?_) (by rfl) ?_ ?_; rotate_left; (focus (intro w1 hb; go_simp; try with_reducible rfl)); simp only [Act.put, List.setIfInBounds_toArray, List.set_cons_zero, List.set_cons_succ])
  refine wpFix_pure (v := .bool true) (by rfl) (fun w1 hb => ?_) ?_
  · go_simp
  simp only [Act.put, List.setIfInBounds_toArray, List.set_cons_zero, List.set_cons_succ]
  iterate 4 (refine wpFix_pure (v := ?_) (by rfl) ?_ ?_; rotate_left; (focus (intro w1 hb; go_simp; try with_reducible rfl)); simp only [Act.put, List.setIfInBounds_toArray, List.set_cons_zero, List.set_cons_succ])
  refine wpFix_pure (v := .bool true) (by rfl) (fun w1 hb => ?_) ?_
  · go_simp
  simp only [Act.put, List.setIfInBounds_toArray, List.set_cons_zero, List.set_cons_succ]
  iterate 2 (refine wpFix_pure (v := ?_) (by rfl) ?_ ?_; rotate_left; (focus (intro w1 hb; go_simp; try with_reducible rfl)); simp only [Act.put, List.setIfInBounds_toArray, List.set_cons_zero, List.set_cons_succ])
  iterate 1 (refine wpFix_pure (v := ?_) (by rfl) ?_ ?_; rotate_left; (focus (intro w1 hb; obtain ⟨p0, p1, p2, p3, p4, p5⟩ := six_at ((p_10.out.keep hb).row); go_simp; try with_reducible rfl)); simp only [Act.put, List.setIfInBounds_toArray, List.set_cons_zero, List.set_cons_succ])
  iterate 1 (refine wpFix_pure (v := ?_) (by rfl) ?_ ?_; rotate_left; (focus (intro w1 hb; obtain ⟨q0, q1, q2, q3, q4, q5⟩ := six_at ((q_10.out.keep hb).row); go_simp; try with_reducible rfl)); simp only [Act.put, List.setIfInBounds_toArray, List.set_cons_zero, List.set_cons_succ])
  refine wpFix_call (.bool true) (by rfl) (fun w1 hb K Q hK => ?_) ?_
  · go_wp2_with fail
    refine (HSI.out _ _ _ (p_10.out.keep hb).jc (q_10.out.keep hb).jc).mono ?_
    rintro e w2 ⟨rfl, hb2⟩
    exact hK _ (hb.trans (hb2.mono hb.size))
  simp only [Act.put, List.setIfInBounds_toArray, List.set_cons_zero, List.set_cons_succ]
  iterate 4 (refine wpFix_pure (v := ?_) (by rfl) ?_ ?_; rotate_left; (focus (intro w1 hb; go_simp; try with_reducible rfl)); simp only [Act.put, List.setIfInBounds_toArray, List.set_cons_zero, List.set_cons_succ])
  refine wpFix_pure (v := .bool true) (by rfl) (fun w1 hb => ?_) ?_
  · go_simp
  simp only [Act.put, List.setIfInBounds_toArray, List.set_cons_zero, List.set_cons_succ]
  iterate 2 (refine wpFix_pure (v := ?_) (by rfl) ?_ ?_; rotate_left; (focus (intro w1 hb; go_simp; try with_reducible rfl)); simp only [Act.put, List.setIfInBounds_toArray, List.set_cons_zero, List.set_cons_succ])
  iterate 1 (refine wpFix_pure (v := ?_) (by rfl) ?_ ?_; rotate_left; (focus (intro w1 hb; obtain ⟨x0, x1, x2, x3, x4, x5⟩ := six_at ((x_10.out.keep hb).row); go_simp; try with_reducible rfl)); simp only [Act.put, List.setIfInBounds_toArray, List.set_cons_zero, List.set_cons_succ])
  iterate 1 (refine wpFix_pure (v := ?_) (by rfl) ?_ ?_; rotate_left; (focus (intro w1 hb; obtain ⟨y0, y1, y2, y3, y4, y5⟩ := six_at ((y_10.out.keep hb).row); go_simp; try with_reducible rfl)); simp only [Act.put, List.setIfInBounds_toArray, List.set_cons_zero, List.set_cons_succ])
  refine wpFix_call (.bool sm) (by rfl) (fun w1 hb K Q hK => ?_) ?_
  · go_wp2_with fail
    refine (HM.out _ _ _ (x_10.out.keep hb).jc (y_10.out.keep hb).jc).mono ?_
    rintro e w2 ⟨rfl, hb2⟩
    exact hK _ (hb.trans (hb2.mono hb.size))
  simp only [Act.put, List.setIfInBounds_toArray, List.set_cons_zero, List.set_cons_succ]
  iterate 1 (refine wpFix_pure (v := ?_) (by rfl) ?_ ?_; rotate_left; (focus (intro w1 hb; obtain ⟨x0, x1, x2, x3, x4, x5⟩ := six_at ((x_10.out.keep hb).row); go_simp; try with_reducible rfl)); simp only [Act.put, List.setIfInBounds_toArray, List.set_cons_zero, List.set_cons_succ])
  iterate 1 (refine wpFix_pure (v := ?_) (by rfl) ?_ ?_; rotate_left; (focus (intro w1 hb; obtain ⟨y0, y1, y2, y3, y4, y5⟩ := six_at ((y_10.out.keep hb).row); go_simp; try with_reducible rfl)); simp only [Act.put, List.setIfInBounds_toArray, List.set_cons_zero, List.set_cons_succ])
  refine wpFix_call (.bool sm) (by rfl) (fun w1 hb K Q hK => ?_) ?_
  · go_wp2_with fail
    refine (HRM.out _ _ _ (x_10.out.keep hb).jc (y_10.out.keep hb).jc).mono ?_
    rintro e w2 ⟨rfl, hb2⟩
    exact hK _ (hb.trans (hb2.mono hb.size))
  simp only [Act.put, List.setIfInBounds_toArray, List.set_cons_zero, List.set_cons_succ]
  refine wpFix_pure (v := .bool true) (by rfl) (fun w1 hb => ?_) ?_
  · go_simp
  simp only [Act.put, List.setIfInBounds_toArray, List.set_cons_zero, List.set_cons_succ]
  iterate 2 (refine wpFix_pure (v := ?_) (by rfl) ?_ ?_; rotate_left; (focus (intro w1 hb; go_simp; try with_reducible rfl)); simp only [Act.put, List.setIfInBounds_toArray, List.set_cons_zero, List.set_cons_succ])
  iterate 1 (refine wpFix_pure (v := ?_) (by rfl) ?_ ?_; rotate_left; (focus (intro w1 hb; obtain ⟨x0, x1, x2, x3, x4, x5⟩ := six_at ((x_10.out.keep hb).row); go_simp; try with_reducible rfl)); simp only [Act.put, List.setIfInBounds_toArray, List.set_cons_zero, List.set_cons_succ])
  iterate 1 (refine wpFix_pure (v := ?_) (by rfl) ?_ ?_; rotate_left; (focus (intro w1 hb; obtain ⟨x0, x1, x2, x3, x4, x5⟩ := six_at ((x_10.out.keep hb).row); go_simp; try with_reducible rfl)); simp only [Act.put, List.setIfInBounds_toArray, List.set_cons_zero, List.set_cons_succ])
  refine wpFix_call (.bool true) (by rfl) (fun w1 hb K Q hK => ?_) ?_
  · go_wp2_with fail
    refine (HMM.out _ _ _ (x_10.out.keep hb).jc (x_10.out.keep hb).jc).mono ?_
    rintro e w2 ⟨rfl, hb2⟩
    exact hK _ (hb.trans (hb2.mono hb.size))
  simp only [Act.put, List.setIfInBounds_toArray, List.set_cons_zero, List.set_cons_succ]
  iterate 4 (refine wpFix_pure (v := ?_) (by rfl) ?_ ?_; rotate_left; (focus (intro w1 hb; go_simp; try with_reducible rfl)); simp only [Act.put, List.setIfInBounds_toArray, List.set_cons_zero, List.set_cons_succ])
  refine wpFix_pure (v := .bool true) (by rfl) (fun w1 hb => ?_) ?_
  · go_simp
  simp only [Act.put, List.setIfInBounds_toArray, List.set_cons_zero, List.set_cons_succ]
  iterate 4 (refine wpFix_pure (v := ?_) (by rfl) ?_ ?_; rotate_left; (focus (intro w1 hb; go_simp; try with_reducible rfl)); simp only [Act.put, List.setIfInBounds_toArray, List.set_cons_zero, List.set_cons_succ])
  refine wpFix_pure (v := .bool true) (by rfl) (fun w1 hb => ?_) ?_
  · go_simp
  simp only [Act.put, List.setIfInBounds_toArray, List.set_cons_zero, List.set_cons_succ]
  iterate 2 (refine wpFix_pure (v := ?_) (by rfl) ?_ ?_; rotate_left; (focus (intro w1 hb; go_simp; try with_reducible rfl)); simp only [Act.put, List.setIfInBounds_toArray, List.set_cons_zero, List.set_cons_succ])
  refine wpFix_nil ?_
  intro w9 hb9
  have HE := Lib.hid (HB10.out.trans (hb9.mono HB10.out.size))
  clear hb9
  go_wp2_with fail
  go_ret
  exact ⟨rfl, HE.out⟩
end Go.Proofs.YtamclieppbnpiaaGreatDoor
