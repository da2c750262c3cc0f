/-
  The law JsonJoins: true.
-/
import Derived.Test.YtamclieppbnpiabGreatDoorProg
import Derived.Test.YtamclieppbnpiabGreatDoorReg
import Derived.WalkKit
import Derived.WalkSpells
import Derived.WalkLawsBesides
import Derived.Lib.Hide
import Derived.Lib.MinMax
import Derived.Deep.QuietTactic
import Derived.BigQuiet
import Derived.OwnWalk
import Derived.Deep.AppendLies
import Derived.KernelRfl
import Derived.Test.YtamclieppbnpiabGreatDoorJtE
import Derived.Test.YtamclieppbnpiabGreatDoorJtF
set_option linter.unusedSimpArgs false
set_option linter.unusedVariables false
namespace Go.Proofs.YtamclieppbnpiabGreatDoor
open Go Go.RowKit Go.Maps

set_option maxRecDepth 100000 in
set_option maxHeartbeats 8000000 in
theorem jsonJoins_any (a : Addr) (x y : Js) (cs ds : List Value) (s t : ByteArray) (w : World) (ho : okJ maxLen x) (hoy : okJ maxLen y) (hs : s.size ≤ maxLen) (ht : t.size ≤ maxLen) (hJx : JC w x cs) (hJy : JC w y ds) (hW : WJ a w) : Calls Tryz.prog 3 #[.agg cs.toArray, .agg ds.toArray, .string s, .string t] w fun e w' => e = .returned (.bool true) ∧ Below w.heap.size w w' := by
  obtain ⟨A0, c0, B0, d0, rfl, -⟩ := JC_iff.1 hJx
  obtain ⟨A8, c8, B8, d8, rfl, -⟩ := JC_iff.1 hJy
  have hb1 := below_new w (.cells #[.int .i64 x.kind, .bool x.yes, .int .i64 x.n, .string x.s, .slice A0 x.keys.length c0, .slice B0 x.l.length d0] tJ)
  have hb2 := below_new (w.alloc (.cells #[.int .i64 x.kind, .bool x.yes, .int .i64 x.n, .string x.s, .slice A0 x.keys.length c0, .slice B0 x.l.length d0] tJ)) (.cells #[.int .i64 y.kind, .bool y.yes, .int .i64 y.n, .string y.s, .slice A8 y.keys.length c8, .slice B8 y.l.length d8] tJ)
  have hb0 := hb1.trans (hb2.mono hb1.size)
  have hz1 : (w.alloc (.cells #[.int .i64 x.kind, .bool x.yes, .int .i64 x.n, .string x.s, .slice A0 x.keys.length c0, .slice B0 x.l.length d0] tJ)).heap.size = w.heap.size + 1 := by simp
  have hvx := (VarAt.new hJx).keep hb2
  have hvy := VarAt.new (hJy.keep hb1)
  have HS := Lib.hid (shown_any a _ (hW.keep hb0))
  have HW := Lib.hid hW
  have HFx := Lib.hid (fun W cs h => few4_any x ho cs W h)
  have HFy := Lib.hid (fun W cs h => few4_any y hoy cs W h)
  have hok := okJ.mono (M := 50) (N := 100) (by omega) _ (few_ok 4 x ho)
  have hoky := okJ.mono (M := 50) (N := 100) (by omega) _ (few_ok 4 y hoy)
  have hlen := few_text4 ho
  have hleny := few_text4 hoy
  have hszs := headS_size 50 s
  have hszt := headS_size 50 t
  have hls : (headS 50 s).data.toList.length = (headS 50 s).size := Array.length_toList
  have hlt : (headS 50 t).data.toList.length = (headS 50 t).size := Array.length_toList
  have e1 := bs_of (headS 50 s)
  have e2 := bs_of (headS 50 t)
  have hqs := quote_len (headS 50 s).data.toList
  have hqt := quote_len (headS 50 t).data.toList
  have HShs := Lib.hid (fun W => short_any s W hs)
  have HSht := Lib.hid (fun W => short_any t W ht)
  have HPx := Lib.hid (fun W cs h1 h2 => Print_any a 100 (by omega) (fewJ 4 x) hok (fun _ => by omega) cs W h1 h2)
  have HPy := Lib.hid (fun W cs h1 h2 => Print_any a 100 (by omega) (fewJ 4 y) hoky (fun _ => by omega) cs W h1 h2)
  have HQs := Lib.hid (fun W h => Quote_any a (headS 50 s).data.toList W (by omega) h)
  have HQt := Lib.hid (fun W h => Quote_any a (headS 50 t).data.toList W (by omega) h)
  rw [e1] at HQs
  rw [e2] at HQt
  have HMx := Lib.hid (fun W cs ds h1 h2 => Same_any 100 (by omega) (fewJ 4 x) (fewJ 4 x) hok hok cs ds W h1 h2)
  have HMy := Lib.hid (fun W cs ds h1 h2 => Same_any 100 (by omega) (fewJ 4 y) (fewJ 4 y) hoky hoky cs ds W h1 h2)
  rw [sameJ_iff.2 rfl] at HMx HMy
  have HX1 := Lib.hid (fun (h1 : rightJ 64 (fewJ 4 x) = true) (h2 : rightJ 64 (fewJ 4 y) = true) W h => parse_any a (pairT (jtext (fewJ 4 x)) (jtext (fewJ 4 y))) W _ (pair_parse ho hoy h1 h2) (by unfold pairT; simp only [List.length_cons, List.length_append, List.length_nil]; omega) h)
  have hl2 : (bothT (quoteL (headS 50 s).data.toList) (quoteL (headS 50 t).data.toList) (jtext (fewJ 4 x)) (jtext (fewJ 4 y))).length ≤ 100000000 := by unfold bothT; simp only [List.length_cons, List.length_append, List.length_nil]; omega
  have HX2 := Lib.hid (fun (hk : Lib.validD (headS 50 s).data.toList = true) (hm : Lib.validD (headS 50 t).data.toList = true) (hkm : headS 50 s ≠ headS 50 t) (h1 : rightJ 64 (fewJ 4 x) = true) (h2 : rightJ 64 (fewJ 4 y) = true) W h => parse_any a (bothT (quoteL (headS 50 s).data.toList) (quoteL (headS 50 t).data.toList) (jtext (fewJ 4 x)) (jtext (fewJ 4 y))) W _ (both_parse ho hoy h1 h2 hk hm hkm) hl2 h)
  have HX3 := Lib.hid (fun (hk : Lib.validD (headS 50 s).data.toList = true) (hkm : headS 50 s = headS 50 t) (h1 : rightJ 64 (fewJ 4 x) = true) W h => parse_any a (bothT (quoteL (headS 50 s).data.toList) (quoteL (headS 50 t).data.toList) (jtext (fewJ 4 x)) (jtext (fewJ 4 y))) W (.error 150) (by rw [← hkm]; exact twice_parse (fewJ 4 y |> fun _ => y) ho h1 hk) hl2 h)
  rw [← pair_cat] at HX1
  rw [← both_cat] at HX2 HX3
  have hkz : ∀ k' ∈ [headS 50 s, headS 50 t], k'.size ≤ 100 := fun k' hk => by
    simp only [List.mem_cons, List.not_mem_nil, or_false] at hk
    rcases hk with rfl | rfl <;> omega
  have hob := two_ok (M := 100) (K := [headS 50 s, headS 50 t]) (kind := 5) (by omega) hkz (by simp) hok hoky
  have HGk := Lib.hid (fun cs W h D h2 h3 => GetD_any 100 (by omega) (bothJ (headS 50 s) (headS 50 t) (fewJ 4 x) (fewJ 4 y)) hob (headS 50 s) cs W h D h2 h3)
  have HGm := Lib.hid (fun (hkm : headS 50 s ≠ headS 50 t) => both_get2 (fewJ 4 x) (fewJ 4 y) hkm)
  have HGt := Lib.hid (fun cs W h D h2 h3 => GetD_any 100 (by omega) (bothJ (headS 50 s) (headS 50 t) (fewJ 4 x) (fewJ 4 y)) hob (headS 50 t) cs W h D h2 h3)
  rw [both_get1] at HGk
  have HB1 := Lib.hid hb0
  have HW1 := Lib.hid (hW.keep hb0)
  have x_1 : Hid (VarAt _ w.heap.size x A0 c0 B0 d0) := Lib.hid hvx
  have y_1 : Hid (VarAt _ (w.heap.size + 1) y A8 c8 B8 d8) := Lib.hid (by rw [hz1] at hvy; exact hvy)
  have HJy := Lib.hid hJy
  have kx : Hid ((rightJ 64 (fewJ 4 x) = true ∧ (if rightJ 64 (fewJ 4 x) = true then (0 : Int) else 150) = 0 ∧ bs (if rightJ 64 (fewJ 4 x) = true then jtext (fewJ 4 x) else []) = bs (jtext (fewJ 4 x))) ∨ (if rightJ 64 (fewJ 4 x) = true then (0 : Int) else 150) = 150) := Lib.hid (by cases h : rightJ 64 (fewJ 4 x) <;> simp)
  have ky : Hid ((rightJ 64 (fewJ 4 y) = true ∧ (if rightJ 64 (fewJ 4 y) = true then (0 : Int) else 150) = 0 ∧ bs (if rightJ 64 (fewJ 4 y) = true then jtext (fewJ 4 y) else []) = bs (jtext (fewJ 4 y))) ∨ (if rightJ 64 (fewJ 4 y) = true then (0 : Int) else 150) = 150) := Lib.hid (by cases h : rightJ 64 (fewJ 4 y) <;> simp)
  have ks : Hid ((Lib.validD (headS 50 s).data.toList = true ∧ bs (if Lib.validD (headS 50 s).data.toList = true then quoteL (headS 50 s).data.toList else []) = bs (quoteL (headS 50 s).data.toList)) ∨ Lib.validD (headS 50 s).data.toList = false) := Lib.hid (by cases h : Lib.validD (headS 50 s).data.toList <;> simp)
  have kt : Hid ((Lib.validD (headS 50 t).data.toList = true ∧ bs (if Lib.validD (headS 50 t).data.toList = true then quoteL (headS 50 t).data.toList else []) = bs (quoteL (headS 50 t).data.toList)) ∨ Lib.validD (headS 50 t).data.toList = false) := Lib.hid (by cases h : Lib.validD (headS 50 t).data.toList <;> simp)
  have zx : (bs (jtext (fewJ 4 x))).size ≤ 864326 := by rw [bs_size]; exact hlen
  have zy : (bs (jtext (fewJ 4 y))).size ≤ 864326 := by rw [bs_size]; exact hleny
  have zs : (bs (quoteL (headS 50 s).data.toList)).size ≤ 400 := by rw [bs_size]; omega
  have zt : (bs (quoteL (headS 50 t).data.toList)).size ≤ 400 := by rw [bs_size]; omega
  clear hW hb0 hb1 hb2 hvx hvy hok hoky hlen hleny hszs hszt hls hlt e1 e2 hqs hqt hl2 hz1 hkz hob
  generalize bs (if rightJ 64 (fewJ 4 x) = true then (jtext (fewJ 4 x)) else []) = tx at *
  generalize bs (if rightJ 64 (fewJ 4 y) = true then (jtext (fewJ 4 y)) else []) = ty at *
  generalize (if rightJ 64 (fewJ 4 x) = true then (0 : Int) else 150) = ex at *
  generalize (if rightJ 64 (fewJ 4 y) = true then (0 : Int) else 150) = ey at *
  generalize rightJ 64 (fewJ 4 x) = rx at *
  generalize rightJ 64 (fewJ 4 y) = ry at *
  generalize bs (if Lib.validD (headS 50 s).data.toList = true then (quoteL (headS 50 s).data.toList) else []) = qs at *
  generalize bs (if Lib.validD (headS 50 t).data.toList = true then (quoteL (headS 50 t).data.toList) else []) = qt at *
  generalize Lib.validD (headS 50 s).data.toList = vs at *
  generalize Lib.validD (headS 50 t).data.toList = vt at *
  generalize bs (jtext (fewJ 4 x)) = TX at *
  generalize bs (jtext (fewJ 4 y)) = TY at *
  generalize bs (quoteL (headS 50 s).data.toList) = QS at *
  generalize bs (quoteL (headS 50 t).data.toList) = QT at *
  generalize hF : fewJ 4 x = f at *
  generalize hG : fewJ 4 y = g at *
  clear hF hG
  generalize headS 50 s = k at *
  generalize headS 50 t = m at *
  obtain ⟨i0, i1, i2, i3, i4, i5⟩ := six_at x_1.out.row
  obtain ⟨j0, j1, j2, j3, j4, j5⟩ := six_at y_1.out.row
  go_enter Tryz.func3, Tryz.ntmps3
  go_wp2_with fail
  generalize (w.alloc (.cells #[.int .i64 x.kind, .bool x.yes, .int .i64 x.n, .string x.s, .slice A0 x.keys.length c0, .slice B0 x.l.length d0] tJ)).alloc (.cells #[.int .i64 y.kind, .bool y.yes, .int .i64 y.n, .string y.s, .slice A8 y.keys.length c8, .slice B8 y.l.length d8] tJ) = W0 at *
  refine (HS.out).mono ?_
  rintro e w1 ⟨rfl, hb⟩
  have HB2 := Lib.hid (HB1.out.trans ((hb).mono HB1.out.size))
  have HW2 := Lib.hid (HW1.out.keep hb)
  have x_2 := Lib.hid (x_1.out.keep hb)
  have y_2 := Lib.hid (y_1.out.keep hb)
  clear hb
  obtain ⟨x2c0, x2c1, x2c2, x2c3, x2c4, x2c5⟩ := six_at x_2.out.row
  obtain ⟨y2c0, y2c1, y2c2, y2c3, y2c4, y2c5⟩ := six_at y_2.out.row
  go_wp2_with fail
  refine (HFx.out _ _ x_2.out.jc).mono ?_
  rintro e w2 ⟨hf, hb⟩
  obtain ⟨A1, c1, B1, d1, rfl, hJ⟩ := hf.six
  have hBn := HB2.out.trans (hb.mono HB2.out.size)
  have hrow := (hb.block _ x_2.out.lt).trans x_2.out.row
  obtain ⟨w2s, hw2s⟩ : ∃ W', W' = ((((((w2.setCell ⟨w.heap.size, 0, none⟩ (.int .i64 f.kind)).setCell ⟨w.heap.size, 1, none⟩ (.bool f.yes)).setCell ⟨w.heap.size, 2, none⟩ (.int .i64 f.n)).setCell ⟨w.heap.size, 3, none⟩ (.string f.s)).setCell ⟨w.heap.size, 4, none⟩ (.slice A1 f.keys.length c1)).setCell ⟨w.heap.size, 5, none⟩ (.slice B1 f.l.length d1)) := ⟨_, rfl⟩
  obtain ⟨q1, q2, q3, q4⟩ := few_store hBn hrow (by omega) hJ x_2.out.lt w2s hw2s
  have HB3 := Lib.hid q1
  have HW3 := Lib.hid (HW.out.keep q1)
  have x_3 := Lib.hid q2
  have JDx_3 := Lib.hid (hJ.stay (fun k hk => q4 k (by have := hk.1; have := x_2.out.lt; omega)))
  have y_3 : Hid (VarAt w2s (w.heap.size + 1) y A8 c8 B8 d8) := Lib.hid ⟨(q4 _ (by omega)).trans ((hb.block _ y_2.out.lt).trans y_2.out.row), HJy.out.keep q1⟩
  obtain ⟨r0, r1, r2, r3, r4, r5⟩ := six_at hrow
  have rz := fun j => frozen_of_row w2 _ j _ _ hrow
  have rl := (Array.getElem?_eq_some_iff.1 hrow).1
  have hsw2s := q3
  clear hf hb hJ hBn hrow q1 q2 q3 q4
  go_upto_region 3 with fail
  rw [← hw2s]
  clear hw2s r0 r1 r2 r3 r4 r5 rz rl
  obtain ⟨y3c0, y3c1, y3c2, y3c3, y3c4, y3c5⟩ := six_at y_3.out.row
  obtain ⟨x3c0, x3c1, x3c2, x3c3, x3c4, x3c5⟩ := six_at x_3.out.row
  go_wp2_with fail
  have l3 := x_3.out.lt
  have l4 := y_3.out.lt
  have l2 := y_2.out.lt
  refine (HFy.out _ _ y_3.out.jc).mono ?_
  rintro e w3 ⟨hf, hb⟩
  obtain ⟨A2, c2, B2, d2, rfl, hJ⟩ := hf.six
  have hBn := HB3.out.trans (hb.mono HB3.out.size)
  have hrow := (hb.block _ y_3.out.lt).trans y_3.out.row
  obtain ⟨w3s, hw3s⟩ : ∃ W', W' = ((((((w3.setCell ⟨w.heap.size + 1, 0, none⟩ (.int .i64 g.kind)).setCell ⟨w.heap.size + 1, 1, none⟩ (.bool g.yes)).setCell ⟨w.heap.size + 1, 2, none⟩ (.int .i64 g.n)).setCell ⟨w.heap.size + 1, 3, none⟩ (.string g.s)).setCell ⟨w.heap.size + 1, 4, none⟩ (.slice A2 g.keys.length c2)).setCell ⟨w.heap.size + 1, 5, none⟩ (.slice B2 g.l.length d2)) := ⟨_, rfl⟩
  obtain ⟨q1, q2, q3, q4⟩ := few_store hBn hrow (by omega) hJ y_3.out.lt w3s hw3s
  have HB4 := Lib.hid q1
  have HW4 := Lib.hid (HW.out.keep q1)
  have y_4 := Lib.hid q2
  have JDy_4 := Lib.hid (hJ.stay (fun k hk => q4 k (by have := hk.1; have := y_3.out.lt; omega)))
  have x_4 : Hid (VarAt w3s (w.heap.size) f A1 c1 B1 d1) := Lib.hid ⟨(q4 _ (by omega)).trans ((hb.block _ x_3.out.lt).trans x_3.out.row), JDx_3.out _ (fun k hk => (q4 k (by have := hk.1; omega)).trans (hb.block k (by have := hk.2; omega)))⟩
  obtain ⟨r0, r1, r2, r3, r4, r5⟩ := six_at hrow
  have rz := fun j => frozen_of_row w3 _ j _ _ hrow
  have rl := (Array.getElem?_eq_some_iff.1 hrow).1
  have hsw3s := q3
  clear hf hb hJ hBn hrow q1 q2 q3 q4
  go_upto_region 4 with fail
  rw [← hw3s]
  clear hw3s r0 r1 r2 r3 r4 r5 rz rl
  clear l2 l3 l4 hsw2s hsw3s JDx_3 JDy_4
  obtain ⟨x4c0, x4c1, x4c2, x4c3, x4c4, x4c5⟩ := six_at x_4.out.row
  obtain ⟨y4c0, y4c1, y4c2, y4c3, y4c4, y4c5⟩ := six_at y_4.out.row
  go_wp2_with fail
  refine (HPx.out _ _ x_4.out.jc HW4.out).mono ?_
  rintro e w4 ⟨rfl, hb⟩
  have HB5 := Lib.hid (HB4.out.trans ((hb).mono HB4.out.size))
  have HW5 := Lib.hid (HW4.out.keep hb)
  have y_5 := Lib.hid (y_4.out.keep hb)
  have x_5 := Lib.hid (x_4.out.keep hb)
  clear hb
  obtain ⟨x5c0, x5c1, x5c2, x5c3, x5c4, x5c5⟩ := six_at x_5.out.row
  obtain ⟨y5c0, y5c1, y5c2, y5c3, y5c4, y5c5⟩ := six_at y_5.out.row
  go_wp2_with fail
  refine (HPy.out _ _ y_5.out.jc HW5.out).mono ?_
  rintro e w5 ⟨rfl, hb⟩
  have HB6 := Lib.hid (HB5.out.trans ((hb).mono HB5.out.size))
  have HW6 := Lib.hid (HW5.out.keep hb)
  have y_6 := Lib.hid (y_5.out.keep hb)
  have x_6 := Lib.hid (x_5.out.keep hb)
  clear hb
  obtain ⟨x6c0, x6c1, x6c2, x6c3, x6c4, x6c5⟩ := six_at x_6.out.row
  obtain ⟨y6c0, y6c1, y6c2, y6c3, y6c4, y6c5⟩ := six_at y_6.out.row
  go_wp2_with fail
  refine (HShs.out _).mono ?_
  rintro e w6 ⟨rfl, hw⟩
  subst w6
  go_wp2_with fail
  refine (HQs.out _ HW6.out).mono ?_
  rintro e w7 ⟨rfl, hb⟩
  have HB7 := Lib.hid (HB6.out.trans ((hb).mono HB6.out.size))
  have HW7 := Lib.hid (HW6.out.keep hb)
  have y_7 := Lib.hid (y_6.out.keep hb)
  have x_7 := Lib.hid (x_6.out.keep hb)
  clear hb
  obtain ⟨x7c0, x7c1, x7c2, x7c3, x7c4, x7c5⟩ := six_at x_7.out.row
  obtain ⟨y7c0, y7c1, y7c2, y7c3, y7c4, y7c5⟩ := six_at y_7.out.row
  go_wp2_with fail
  refine (HSht.out _).mono ?_
  rintro e w8 ⟨rfl, hw⟩
  subst w8
  go_wp2_with fail
  refine (HQt.out _ HW7.out).mono ?_
  rintro e w9 ⟨rfl, hb⟩
  have HB8 := Lib.hid (HB7.out.trans ((hb).mono HB7.out.size))
  have HW8 := Lib.hid (HW7.out.keep hb)
  have y_8 := Lib.hid (y_7.out.keep hb)
  have x_8 := Lib.hid (x_7.out.keep hb)
  clear hb
  rcases kx.out with ⟨rfl, rfl, rfl⟩ | rfl
  rotate_left
  · go_wp2_with fail
    go_ret
    exact ⟨rfl, HB8.out⟩
  rcases ky.out with ⟨rfl, rfl, rfl⟩ | rfl
  rotate_left
  · go_wp2_with fail
    go_ret
    exact ⟨rfl, HB8.out⟩
  rcases ks.out with ⟨rfl, rfl⟩ | rfl
  rotate_left
  · go_wp2_with fail
    go_ret
    exact ⟨rfl, HB8.out⟩
  rcases kt.out with ⟨rfl, rfl⟩ | rfl
  rotate_left
  · go_wp2_with fail
    go_ret
    exact ⟨rfl, HB8.out⟩
  have z1 : ¬ 9223372036854775807 < 1 + tx.size := by omega
  have z2 : ¬ 9223372036854775807 < 1 + tx.size + 1 := by omega
  have z3 : ¬ 9223372036854775807 < 1 + tx.size + 1 + ty.size := by omega
  have z4 : ¬ 9223372036854775807 < 1 + tx.size + 1 + ty.size + 1 := by omega
  have u1 : ¬ 9223372036854775807 < 1 + qs.size := by omega
  have u2 : ¬ 9223372036854775807 < 1 + qs.size + 1 := by omega
  have u3 : ¬ 9223372036854775807 < 1 + qs.size + 1 + tx.size := by omega
  have u4 : ¬ 9223372036854775807 < 1 + qs.size + 1 + tx.size + 1 := by omega
  have u5 : ¬ 9223372036854775807 < 1 + qs.size + 1 + tx.size + 1 + qt.size := by omega
  have u6 : ¬ 9223372036854775807 < 1 + qs.size + 1 + tx.size + 1 + qt.size + 1 := by omega
  have u7 : ¬ 9223372036854775807 < 1 + qs.size + 1 + tx.size + 1 + qt.size + 1 + ty.size := by omega
  have u8 : ¬ 9223372036854775807 < 1 + qs.size + 1 + tx.size + 1 + qt.size + 1 + ty.size + 1 := by omega
  have HX1a := Lib.hid (HX1.out rfl rfl)
  have HX2a := Lib.hid (fun hkm => HX2.out rfl rfl hkm rfl rfl)
  have HX3a := Lib.hid (fun hkm => HX3.out rfl hkm rfl)
  obtain ⟨pp, hpp⟩ : ∃ pp, pp = pairJ f g := ⟨_, rfl⟩
  have HPP : Hid (pp.l = [f, g]) := Lib.hid (by rw [hpp]; rfl)
  rw [← hpp] at HX1a
  clear hpp zx zy zs zt kx ky ks kt HX1 HX2 HX3
  go_wp2_with fail
  refine (HX1a.out _ HW8.out).mono ?_
  rintro e w11 ⟨hb, cs, rfl, hJ⟩
  obtain ⟨A3, c3, B3, d3, rfl⟩ := hJ.six
  have hv := VarAt.new hJ
  have hbV := below_new w11 (.cells #[.int .i64 pp.kind, .bool pp.yes, .int .i64 pp.n, .string pp.s, .slice A3 pp.keys.length c3, .slice B3 pp.l.length d3] tJ)
  have hb2 := hb.trans (hbV.mono hb.size)
  have HB9 := Lib.hid (HB8.out.trans ((hb2).mono HB8.out.size))
  have HW9 := Lib.hid (HW8.out.keep hb2)
  have y_9 := Lib.hid (y_8.out.keep hb2)
  have x_9 := Lib.hid (x_8.out.keep hb2)
  have u_9 := Lib.hid hv
  clear hJ hb hb2 hbV hv
  go_wp2_with fail
  generalize w11.alloc (.cells #[.int .i64 pp.kind, .bool pp.yes, .int .i64 pp.n, .string pp.s, .slice A3 pp.keys.length c3, .slice B3 pp.l.length d3] tJ) = w11v at *
  by_cases hkm : k = m
  · subst hkm
    have HX3b := Lib.hid (HX3a.out rfl)
    have he := bytes_beq_yes (a := k) (b := k) rfl
    refine (HX3b.out _ HW9.out).mono ?_
    rintro e w12 ⟨hb, rfl⟩
    unfold zeroJ
    have hb5 := hb.trans ((below_new w12 (.cells #[.int .i64 0, .bool false, .int .i64 0, .string ⟨#[]⟩, .slice none 0 0, .slice none 0 0] tJ)).mono hb.size)
    have HB10 := Lib.hid (HB9.out.trans ((hb5).mono HB9.out.size))
    have HW10 := Lib.hid (HW9.out.keep hb5)
    have y_10 := Lib.hid (y_9.out.keep hb5)
    have x_10 := Lib.hid (x_9.out.keep hb5)
    have u_10 := Lib.hid (u_9.out.keep hb5)
    clear hb hb5
    go_wp2_with fail
    refine (HShs.out _).mono ?_
    rintro e w13 ⟨rfl, hw⟩
    subst w13
    go_wp2_with fail
    refine (HSht.out _).mono ?_
    rintro e w14 ⟨rfl, hw⟩
    subst w14
    go_wp2_with fail
    go_ret
    exact ⟨rfl, HB10.out⟩
  · have HX2b := Lib.hid (HX2a.out hkm)
    have he := bytes_beq_no hkm
    have hgm := HGm.out hkm
    obtain ⟨O1, hO1⟩ : ∃ O, O = some f := ⟨_, rfl⟩
    obtain ⟨O2, hO2⟩ : ∃ O, O = some g := ⟨_, rfl⟩
    rw [hgm, ← hO2] at HGt
    rw [← hO1] at HGk
    have HO1 := Lib.hid hO1
    have HO2 := Lib.hid hO2
    clear hO1 hO2 hgm HGm
    generalize bothJ k m f g = bb at *
    refine (HX2b.out _ HW9.out).mono ?_
    rintro e w12 ⟨hb, cs, rfl, hJ⟩
    obtain ⟨A4, c4, B4, d4, rfl⟩ := hJ.six
    have hv := VarAt.new hJ
    have hbV := below_new w12 (.cells #[.int .i64 bb.kind, .bool bb.yes, .int .i64 bb.n, .string bb.s, .slice A4 bb.keys.length c4, .slice B4 bb.l.length d4] tJ)
    have hb2 := hb.trans (hbV.mono hb.size)
    have HB10 := Lib.hid (HB9.out.trans ((hb2).mono HB9.out.size))
    have HW10 := Lib.hid (HW9.out.keep hb2)
    have y_10 := Lib.hid (y_9.out.keep hb2)
    have x_10 := Lib.hid (x_9.out.keep hb2)
    have u_10 := Lib.hid (u_9.out.keep hb2)
    have o_10 := Lib.hid hv
    clear hJ hb hb2 hbV hv
    go_wp2_with fail
    generalize w12.alloc (.cells #[.int .i64 bb.kind, .bool bb.yes, .int .i64 bb.n, .string bb.s, .slice A4 bb.keys.length c4, .slice B4 bb.l.length d4] tJ) = w12v at *
    refine (HShs.out _).mono ?_
    rintro e w13 ⟨rfl, hw⟩
    subst w13
    go_wp2_with fail
    refine (HSht.out _).mono ?_
    rintro e w14 ⟨rfl, hw⟩
    subst w14
    go_upto_region 14 with fail
    have hk6 := six_at o_10.out.row
    have hkL := o_10.out.jc.items
    go_cut [22, 23] from 22 to 110 (fun p ok wx => ItemAt w12v O1 p ok wx)
    case first =>
      have hdz : w12v.drew.heap.size = w12v.heap.size := rfl
      refine wp_region_alloc2 (S := fun w' => w'.cell? ⟨w12.heap.size, 0, none⟩ = some (.int .i64 bb.kind) ∧ w'.cell? ⟨w12.heap.size, 1, none⟩ = some (.bool bb.yes) ∧ w'.cell? ⟨w12.heap.size, 2, none⟩ = some (.int .i64 bb.n) ∧ w'.cell? ⟨w12.heap.size, 3, none⟩ = some (.string bb.s) ∧ w'.cell? ⟨w12.heap.size, 4, none⟩ = some (.slice A4 bb.keys.length c4) ∧ w'.cell? ⟨w12.heap.size, 5, none⟩ = some (.slice B4 bb.l.length d4)) [0, 1] 2 3 7 [4, 5, 6] [8, 9] (by kernel_rfl) (by kernel_rfl) (fun _ _ _ _ _ h => h) hk6 ?_
      simp only [pick, List.filterMap_cons, List.filterMap_nil, List.getElem?_toArray, List.getElem?_cons_zero, List.getElem?_cons_succ]
      repeat (refine wpHead_step (v := ?_) rfl ?_ ?_; rotate_left; (focus (rintro w1 ⟨z0, z1, z2, z3, z4, z5⟩; go_simp; try with_reducible rfl)); simp only [Act.put, List.setIfInBounds_toArray, List.set_cons_zero, List.set_cons_succ])
      refine wpHead_nil ⟨?_, ?_⟩
      · skip
        refine wpTailK_step rfl (fun K hK => ?_)
        go_wp2_with fail
        refine (HShs.out _).mono ?_
        rintro e w9 ⟨rfl, hw⟩
        subst w9
        refine hK _ _ hk6 ?_
        clear hK K
        try simp only [Act.put, List.setIfInBounds_toArray, List.set_cons_zero, List.set_cons_succ]
        refine wpTailK_nil ⟨?_, ?_⟩
        · skip
          have hbw := below_drew w12v
          refine wpTailK_step rfl (fun K hK => ?_)
          go_wp2_with fail
          refine (HGk.out _ w12v.drew (o_10.out.jc.keep hbw) (fun b => b < w12v.heap.size) (fun B d e => by cases e; exact holdsD_of hbw hkL) (fun b hb => Nat.lt_of_lt_of_le hb hbw.size)).mono ?_
          rintro e w2 ⟨hg, hb⟩
          obtain ⟨A9, c9, B9, d9, rfl, hJ9⟩ := hg.six
          have hb2 := hbw.trans (hb.mono hbw.size)
          refine hK _ _ (six_at ((o_10.out.keep hb2).row)) ?_
          clear hK K
          try simp only [Act.put, List.setIfInBounds_toArray, List.set_cons_zero, List.set_cons_succ]
          refine wpTailK_nil ?_
          repeat (refine wpHead_step (v := ?_) rfl ?_ ?_; rotate_left; (focus (rintro w1 ⟨z0, z1, z2, z3, z4, z5⟩; go_simp; try with_reducible rfl)); simp only [Act.put, List.setIfInBounds_toArray, List.set_cons_zero, List.set_cons_succ])
          refine wpHead_nil ?_
          have hz2 := hb2.trans ((below_new w2 (.cells #[.int .i64 0, .bool false, .int .i64 0, .string ⟨#[]⟩, .slice none 0 0, .slice none 0 0] tJ)).mono hb2.size)
          have hz3 := hb2.trans ((below_new w2 (.cells #[.int .i64 (O1.getD noJs).kind, .bool (O1.getD noJs).yes, .int .i64 (O1.getD noJs).n, .string (O1.getD noJs).s, .slice A9 (O1.getD noJs).keys.length c9, .slice B9 (O1.getD noJs).l.length d9] tJ)).mono hb2.size)
          refine wpTail_step rfl (fun K hK => ?_)
          go_wp2_with fail
          refine hK _ _ (six_at ((o_10.out.keep hz2).row)) ?_
          clear hK K
          try simp only [Act.put, List.setIfInBounds_toArray, List.set_cons_zero, List.set_cons_succ]
          refine wpTail_step rfl (fun K hK => ?_)
          go_wp2_with fail
          refine hK _ _ (six_at ((o_10.out.keep hz3).row)) ?_
          clear hK K
          try simp only [Act.put, List.setIfInBounds_toArray, List.set_cons_zero, List.set_cons_succ]
          refine wpTail_step rfl (fun K hK => ?_)
          go_wp2_with fail
          refine hK _ _ (six_at ((o_10.out.keep hz3).row)) ?_
          clear hK K
          try simp only [Act.put, List.setIfInBounds_toArray, List.set_cons_zero, List.set_cons_succ]
          refine wpTail_nil ?_
          go_wp2_with fail
          go_meet
          exact item_new hb2 hJ9
        · skip
          have hbw := (below_drew w12v).trans ((below_new w12v.drew (.cells #[.int .i64 0, .bool false, .int .i64 0, .string ⟨#[]⟩, .slice none 0 0, .slice none 0 0] tJ)).mono (Nat.le_refl _))
          have hr0 := heap_alloc_new w12v.drew (.cells #[.int .i64 0, .bool false, .int .i64 0, .string ⟨#[]⟩, .slice none 0 0, .slice none 0 0] tJ)
          have hzw : (w12v.drew.alloc (.cells #[.int .i64 0, .bool false, .int .i64 0, .string ⟨#[]⟩, .slice none 0 0, .slice none 0 0] tJ)).heap.size = w12v.heap.size + 1 := by simp
          refine wpTailK_step rfl (fun K hK => ?_)
          go_wp2_with fail
          refine hK _ _ (six_at ((o_10.out.keep hbw).row)) ?_
          clear hK K
          try simp only [Act.put, List.setIfInBounds_toArray, List.set_cons_zero, List.set_cons_succ]
          refine wpTailK_step rfl (fun K hK => ?_)
          go_wp2_with fail
          refine (HGk.out _ (w12v.drew.alloc (.cells #[.int .i64 0, .bool false, .int .i64 0, .string ⟨#[]⟩, .slice none 0 0, .slice none 0 0] tJ)) (o_10.out.jc.keep hbw) (fun b => b < w12v.heap.size) (fun B d e => by cases e; exact holdsD_of hbw hkL) (fun b hb => Nat.lt_of_lt_of_le hb hbw.size)).mono ?_
          rintro e w2 ⟨hg, hb⟩
          obtain ⟨A9, c9, B9, d9, rfl, hJ9⟩ := hg.six
          have hb2 := hbw.trans (hb.mono hbw.size)
          refine hK _ _ (six_at ((o_10.out.keep hb2).row)) ?_
          clear hK K
          try simp only [Act.put, List.setIfInBounds_toArray, List.set_cons_zero, List.set_cons_succ]
          refine wpTailK_nil ?_
          repeat (refine wpHead_step (v := ?_) rfl ?_ ?_; rotate_left; (focus (rintro w1 ⟨z0, z1, z2, z3, z4, z5⟩; go_simp; try with_reducible rfl)); simp only [Act.put, List.setIfInBounds_toArray, List.set_cons_zero, List.set_cons_succ])
          refine wpHead_nil ?_
          have hr2 : w2.heap[w12v.heap.size]? = _ := (hb.block w12v.heap.size (by rw [hzw]; omega)).trans hr0
          have hI := item_old (o := O1) (A := A9) (c := c9) (B := B9) (d := d9) hb2 hr2 (Nat.le_refl _) hJ9
          have hz3 := below6 (m := w12v.heap.size) hb2 (R := w12v.heap.size) (Nat.le_refl _) (.int .i64 (O1.getD noJs).kind) (.bool (O1.getD noJs).yes) (.int .i64 (O1.getD noJs).n) (.string (O1.getD noJs).s) (.slice A9 (O1.getD noJs).keys.length c9) (.slice B9 (O1.getD noJs).l.length d9)
          obtain ⟨t0, t1, t2, t3, t4, t5⟩ := six_at hr2
          have tz := fun j => frozen_of_row w2 _ j _ _ hr2
          have tl := (Array.getElem?_eq_some_iff.1 hr2).1
          refine wpTail_step rfl (fun K hK => ?_)
          go_wp2_with fail
          refine hK _ _ (six_at ((o_10.out.keep hz3).row)) ?_
          clear hK K
          try simp only [Act.put, List.setIfInBounds_toArray, List.set_cons_zero, List.set_cons_succ]
          refine wpTail_step rfl (fun K hK => ?_)
          go_wp2_with fail
          refine hK _ _ (six_at ((o_10.out.keep hz3).row)) ?_
          clear hK K
          try simp only [Act.put, List.setIfInBounds_toArray, List.set_cons_zero, List.set_cons_succ]
          refine wpTail_nil ?_
          go_wp2_with fail
          go_meet
          exact hI
      · skip
        have hbw := (below_drew w12v).trans ((below_new w12v.drew (.cells #[.int .i64 0, .bool false, .int .i64 0, .string ⟨#[]⟩, .slice none 0 0, .slice none 0 0] tJ)).mono (Nat.le_refl _))
        have hr0 := heap_alloc_new w12v.drew (.cells #[.int .i64 0, .bool false, .int .i64 0, .string ⟨#[]⟩, .slice none 0 0, .slice none 0 0] tJ)
        have hzw : (w12v.drew.alloc (.cells #[.int .i64 0, .bool false, .int .i64 0, .string ⟨#[]⟩, .slice none 0 0, .slice none 0 0] tJ)).heap.size = w12v.heap.size + 1 := by simp
        refine wpTailK_step rfl (fun K hK => ?_)
        go_wp2_with fail
        refine hK _ _ (six_at ((o_10.out.keep hbw).row)) ?_
        clear hK K
        try simp only [Act.put, List.setIfInBounds_toArray, List.set_cons_zero, List.set_cons_succ]
        refine wpTailK_step rfl (fun K hK => ?_)
        go_wp2_with fail
        refine (HShs.out _).mono ?_
        rintro e w9 ⟨rfl, hw⟩
        subst w9
        refine hK _ _ (six_at ((o_10.out.keep hbw).row)) ?_
        clear hK K
        try simp only [Act.put, List.setIfInBounds_toArray, List.set_cons_zero, List.set_cons_succ]
        refine wpTailK_step rfl (fun K hK => ?_)
        go_wp2_with fail
        refine (HGk.out _ (w12v.drew.alloc (.cells #[.int .i64 0, .bool false, .int .i64 0, .string ⟨#[]⟩, .slice none 0 0, .slice none 0 0] tJ)) (o_10.out.jc.keep hbw) (fun b => b < w12v.heap.size) (fun B d e => by cases e; exact holdsD_of hbw hkL) (fun b hb => Nat.lt_of_lt_of_le hb hbw.size)).mono ?_
        rintro e w2 ⟨hg, hb⟩
        obtain ⟨A9, c9, B9, d9, rfl, hJ9⟩ := hg.six
        have hb2 := hbw.trans (hb.mono hbw.size)
        refine hK _ _ (six_at ((o_10.out.keep hb2).row)) ?_
        clear hK K
        try simp only [Act.put, List.setIfInBounds_toArray, List.set_cons_zero, List.set_cons_succ]
        refine wpTailK_nil ?_
        repeat (refine wpHead_step (v := ?_) rfl ?_ ?_; rotate_left; (focus (rintro w1 ⟨z0, z1, z2, z3, z4, z5⟩; go_simp; try with_reducible rfl)); simp only [Act.put, List.setIfInBounds_toArray, List.set_cons_zero, List.set_cons_succ])
        refine wpHead_nil ?_
        have hr2 : w2.heap[w12v.heap.size]? = _ := (hb.block w12v.heap.size (by rw [hzw]; omega)).trans hr0
        have hI := item_old (o := O1) (A := A9) (c := c9) (B := B9) (d := d9) hb2 hr2 (Nat.le_refl _) hJ9
        have hz3 := below6 (m := w12v.heap.size) hb2 (R := w12v.heap.size) (Nat.le_refl _) (.int .i64 (O1.getD noJs).kind) (.bool (O1.getD noJs).yes) (.int .i64 (O1.getD noJs).n) (.string (O1.getD noJs).s) (.slice A9 (O1.getD noJs).keys.length c9) (.slice B9 (O1.getD noJs).l.length d9)
        obtain ⟨t0, t1, t2, t3, t4, t5⟩ := six_at hr2
        have tz := fun j => frozen_of_row w2 _ j _ _ hr2
        have tl := (Array.getElem?_eq_some_iff.1 hr2).1
        refine wpTail_step rfl (fun K hK => ?_)
        go_wp2_with fail
        refine hK _ _ (six_at ((o_10.out.keep hz3).row)) ?_
        clear hK K
        try simp only [Act.put, List.setIfInBounds_toArray, List.set_cons_zero, List.set_cons_succ]
        refine wpTail_step rfl (fun K hK => ?_)
        go_wp2_with fail
        refine hK _ _ (six_at ((o_10.out.keep hz3).row)) ?_
        clear hK K
        try simp only [Act.put, List.setIfInBounds_toArray, List.set_cons_zero, List.set_cons_succ]
        refine wpTail_nil ?_
        go_wp2_with fail
        go_meet
        exact hI
    case rest =>
    obtain ⟨bk11, A5, c5, B5, d5, rfl, rfl, hv, hb⟩ := hcut

    have HB11 := Lib.hid (HB10.out.trans ((hb).mono HB10.out.size))
    have HW11 := Lib.hid (HW10.out.keep hb)
    have y_11 := Lib.hid (y_10.out.keep hb)
    have x_11 := Lib.hid (x_10.out.keep hb)
    have u_11 := Lib.hid (u_10.out.keep hb)
    have o_11 := Lib.hid (o_10.out.keep hb)
    have p_11 := Lib.hid hv
    clear hb hv hk6 hkL
    have hO1 := HO1.out
    subst hO1
    have p_11 : Hid (VarAt wc bk11 f A5 c5 B5 d5) := Lib.hid p_11.out
    go_upto_region 15 with fail
    have hk6 := six_at o_11.out.row
    have hkL := o_11.out.jc.items
    go_cut [24, 25] from 24 to 117 (fun p ok wx => ItemAt wc O2 p ok wx)
    case first =>
      have hdz : wc.drew.heap.size = wc.heap.size := rfl
      refine wp_region_alloc2 (S := fun w' => w'.cell? ⟨w12.heap.size, 0, none⟩ = some (.int .i64 bb.kind) ∧ w'.cell? ⟨w12.heap.size, 1, none⟩ = some (.bool bb.yes) ∧ w'.cell? ⟨w12.heap.size, 2, none⟩ = some (.int .i64 bb.n) ∧ w'.cell? ⟨w12.heap.size, 3, none⟩ = some (.string bb.s) ∧ w'.cell? ⟨w12.heap.size, 4, none⟩ = some (.slice A4 bb.keys.length c4) ∧ w'.cell? ⟨w12.heap.size, 5, none⟩ = some (.slice B4 bb.l.length d4)) [0, 1] 2 3 7 [4, 5, 6] [8, 9] (by kernel_rfl) (by kernel_rfl) (fun _ _ _ _ _ h => h) hk6 ?_
      simp only [pick, List.filterMap_cons, List.filterMap_nil, List.getElem?_toArray, List.getElem?_cons_zero, List.getElem?_cons_succ]
      repeat (refine wpHead_step (v := ?_) rfl ?_ ?_; rotate_left; (focus (rintro w1 ⟨z0, z1, z2, z3, z4, z5⟩; go_simp; try with_reducible rfl)); simp only [Act.put, List.setIfInBounds_toArray, List.set_cons_zero, List.set_cons_succ])
      refine wpHead_nil ⟨?_, ?_⟩
      · skip
        refine wpTailK_step rfl (fun K hK => ?_)
        go_wp2_with fail
        refine (HSht.out _).mono ?_
        rintro e w9 ⟨rfl, hw⟩
        subst w9
        refine hK _ _ hk6 ?_
        clear hK K
        try simp only [Act.put, List.setIfInBounds_toArray, List.set_cons_zero, List.set_cons_succ]
        refine wpTailK_nil ⟨?_, ?_⟩
        · skip
          have hbw := below_drew wc
          refine wpTailK_step rfl (fun K hK => ?_)
          go_wp2_with fail
          refine (HGt.out _ wc.drew (o_11.out.jc.keep hbw) (fun b => b < wc.heap.size) (fun B d e => by cases e; exact holdsD_of hbw hkL) (fun b hb => Nat.lt_of_lt_of_le hb hbw.size)).mono ?_
          rintro e w2 ⟨hg, hb⟩
          obtain ⟨A9, c9, B9, d9, rfl, hJ9⟩ := hg.six
          have hb2 := hbw.trans (hb.mono hbw.size)
          refine hK _ _ (six_at ((o_11.out.keep hb2).row)) ?_
          clear hK K
          try simp only [Act.put, List.setIfInBounds_toArray, List.set_cons_zero, List.set_cons_succ]
          refine wpTailK_nil ?_
          repeat (refine wpHead_step (v := ?_) rfl ?_ ?_; rotate_left; (focus (rintro w1 ⟨z0, z1, z2, z3, z4, z5⟩; go_simp; try with_reducible rfl)); simp only [Act.put, List.setIfInBounds_toArray, List.set_cons_zero, List.set_cons_succ])
          refine wpHead_nil ?_
          have hz2 := hb2.trans ((below_new w2 (.cells #[.int .i64 0, .bool false, .int .i64 0, .string ⟨#[]⟩, .slice none 0 0, .slice none 0 0] tJ)).mono hb2.size)
          have hz3 := hb2.trans ((below_new w2 (.cells #[.int .i64 (O2.getD noJs).kind, .bool (O2.getD noJs).yes, .int .i64 (O2.getD noJs).n, .string (O2.getD noJs).s, .slice A9 (O2.getD noJs).keys.length c9, .slice B9 (O2.getD noJs).l.length d9] tJ)).mono hb2.size)
          refine wpTail_step rfl (fun K hK => ?_)
          go_wp2_with fail
          refine hK _ _ (six_at ((o_11.out.keep hz2).row)) ?_
          clear hK K
          try simp only [Act.put, List.setIfInBounds_toArray, List.set_cons_zero, List.set_cons_succ]
          refine wpTail_step rfl (fun K hK => ?_)
          go_wp2_with fail
          refine hK _ _ (six_at ((o_11.out.keep hz3).row)) ?_
          clear hK K
          try simp only [Act.put, List.setIfInBounds_toArray, List.set_cons_zero, List.set_cons_succ]
          refine wpTail_step rfl (fun K hK => ?_)
          go_wp2_with fail
          refine hK _ _ (six_at ((o_11.out.keep hz3).row)) ?_
          clear hK K
          try simp only [Act.put, List.setIfInBounds_toArray, List.set_cons_zero, List.set_cons_succ]
          refine wpTail_nil ?_
          go_wp2_with fail
          go_meet
          exact item_new hb2 hJ9
        · skip
          have hbw := (below_drew wc).trans ((below_new wc.drew (.cells #[.int .i64 0, .bool false, .int .i64 0, .string ⟨#[]⟩, .slice none 0 0, .slice none 0 0] tJ)).mono (Nat.le_refl _))
          have hr0 := heap_alloc_new wc.drew (.cells #[.int .i64 0, .bool false, .int .i64 0, .string ⟨#[]⟩, .slice none 0 0, .slice none 0 0] tJ)
          have hzw : (wc.drew.alloc (.cells #[.int .i64 0, .bool false, .int .i64 0, .string ⟨#[]⟩, .slice none 0 0, .slice none 0 0] tJ)).heap.size = wc.heap.size + 1 := by simp
          refine wpTailK_step rfl (fun K hK => ?_)
          go_wp2_with fail
          refine hK _ _ (six_at ((o_11.out.keep hbw).row)) ?_
          clear hK K
          try simp only [Act.put, List.setIfInBounds_toArray, List.set_cons_zero, List.set_cons_succ]
          refine wpTailK_step rfl (fun K hK => ?_)
          go_wp2_with fail
          refine (HGt.out _ (wc.drew.alloc (.cells #[.int .i64 0, .bool false, .int .i64 0, .string ⟨#[]⟩, .slice none 0 0, .slice none 0 0] tJ)) (o_11.out.jc.keep hbw) (fun b => b < wc.heap.size) (fun B d e => by cases e; exact holdsD_of hbw hkL) (fun b hb => Nat.lt_of_lt_of_le hb hbw.size)).mono ?_
          rintro e w2 ⟨hg, hb⟩
          obtain ⟨A9, c9, B9, d9, rfl, hJ9⟩ := hg.six
          have hb2 := hbw.trans (hb.mono hbw.size)
          refine hK _ _ (six_at ((o_11.out.keep hb2).row)) ?_
          clear hK K
          try simp only [Act.put, List.setIfInBounds_toArray, List.set_cons_zero, List.set_cons_succ]
          refine wpTailK_nil ?_
          repeat (refine wpHead_step (v := ?_) rfl ?_ ?_; rotate_left; (focus (rintro w1 ⟨z0, z1, z2, z3, z4, z5⟩; go_simp; try with_reducible rfl)); simp only [Act.put, List.setIfInBounds_toArray, List.set_cons_zero, List.set_cons_succ])
          refine wpHead_nil ?_
          have hr2 : w2.heap[wc.heap.size]? = _ := (hb.block wc.heap.size (by rw [hzw]; omega)).trans hr0
          have hI := item_old (o := O2) (A := A9) (c := c9) (B := B9) (d := d9) hb2 hr2 (Nat.le_refl _) hJ9
          have hz3 := below6 (m := wc.heap.size) hb2 (R := wc.heap.size) (Nat.le_refl _) (.int .i64 (O2.getD noJs).kind) (.bool (O2.getD noJs).yes) (.int .i64 (O2.getD noJs).n) (.string (O2.getD noJs).s) (.slice A9 (O2.getD noJs).keys.length c9) (.slice B9 (O2.getD noJs).l.length d9)
          obtain ⟨t0, t1, t2, t3, t4, t5⟩ := six_at hr2
          have tz := fun j => frozen_of_row w2 _ j _ _ hr2
          have tl := (Array.getElem?_eq_some_iff.1 hr2).1
          refine wpTail_step rfl (fun K hK => ?_)
          go_wp2_with fail
          refine hK _ _ (six_at ((o_11.out.keep hz3).row)) ?_
          clear hK K
          try simp only [Act.put, List.setIfInBounds_toArray, List.set_cons_zero, List.set_cons_succ]
          refine wpTail_step rfl (fun K hK => ?_)
          go_wp2_with fail
          refine hK _ _ (six_at ((o_11.out.keep hz3).row)) ?_
          clear hK K
          try simp only [Act.put, List.setIfInBounds_toArray, List.set_cons_zero, List.set_cons_succ]
          refine wpTail_nil ?_
          go_wp2_with fail
          go_meet
          exact hI
      · skip
        have hbw := (below_drew wc).trans ((below_new wc.drew (.cells #[.int .i64 0, .bool false, .int .i64 0, .string ⟨#[]⟩, .slice none 0 0, .slice none 0 0] tJ)).mono (Nat.le_refl _))
        have hr0 := heap_alloc_new wc.drew (.cells #[.int .i64 0, .bool false, .int .i64 0, .string ⟨#[]⟩, .slice none 0 0, .slice none 0 0] tJ)
        have hzw : (wc.drew.alloc (.cells #[.int .i64 0, .bool false, .int .i64 0, .string ⟨#[]⟩, .slice none 0 0, .slice none 0 0] tJ)).heap.size = wc.heap.size + 1 := by simp
        refine wpTailK_step rfl (fun K hK => ?_)
        go_wp2_with fail
        refine hK _ _ (six_at ((o_11.out.keep hbw).row)) ?_
        clear hK K
        try simp only [Act.put, List.setIfInBounds_toArray, List.set_cons_zero, List.set_cons_succ]
        refine wpTailK_step rfl (fun K hK => ?_)
        go_wp2_with fail
        refine (HSht.out _).mono ?_
        rintro e w9 ⟨rfl, hw⟩
        subst w9
        refine hK _ _ (six_at ((o_11.out.keep hbw).row)) ?_
        clear hK K
        try simp only [Act.put, List.setIfInBounds_toArray, List.set_cons_zero, List.set_cons_succ]
        refine wpTailK_step rfl (fun K hK => ?_)
        go_wp2_with fail
        refine (HGt.out _ (wc.drew.alloc (.cells #[.int .i64 0, .bool false, .int .i64 0, .string ⟨#[]⟩, .slice none 0 0, .slice none 0 0] tJ)) (o_11.out.jc.keep hbw) (fun b => b < wc.heap.size) (fun B d e => by cases e; exact holdsD_of hbw hkL) (fun b hb => Nat.lt_of_lt_of_le hb hbw.size)).mono ?_
        rintro e w2 ⟨hg, hb⟩
        obtain ⟨A9, c9, B9, d9, rfl, hJ9⟩ := hg.six
        have hb2 := hbw.trans (hb.mono hbw.size)
        refine hK _ _ (six_at ((o_11.out.keep hb2).row)) ?_
        clear hK K
        try simp only [Act.put, List.setIfInBounds_toArray, List.set_cons_zero, List.set_cons_succ]
        refine wpTailK_nil ?_
        repeat (refine wpHead_step (v := ?_) rfl ?_ ?_; rotate_left; (focus (rintro w1 ⟨z0, z1, z2, z3, z4, z5⟩; go_simp; try with_reducible rfl)); simp only [Act.put, List.setIfInBounds_toArray, List.set_cons_zero, List.set_cons_succ])
        refine wpHead_nil ?_
        have hr2 : w2.heap[wc.heap.size]? = _ := (hb.block wc.heap.size (by rw [hzw]; omega)).trans hr0
        have hI := item_old (o := O2) (A := A9) (c := c9) (B := B9) (d := d9) hb2 hr2 (Nat.le_refl _) hJ9
        have hz3 := below6 (m := wc.heap.size) hb2 (R := wc.heap.size) (Nat.le_refl _) (.int .i64 (O2.getD noJs).kind) (.bool (O2.getD noJs).yes) (.int .i64 (O2.getD noJs).n) (.string (O2.getD noJs).s) (.slice A9 (O2.getD noJs).keys.length c9) (.slice B9 (O2.getD noJs).l.length d9)
        obtain ⟨t0, t1, t2, t3, t4, t5⟩ := six_at hr2
        have tz := fun j => frozen_of_row w2 _ j _ _ hr2
        have tl := (Array.getElem?_eq_some_iff.1 hr2).1
        refine wpTail_step rfl (fun K hK => ?_)
        go_wp2_with fail
        refine hK _ _ (six_at ((o_11.out.keep hz3).row)) ?_
        clear hK K
        try simp only [Act.put, List.setIfInBounds_toArray, List.set_cons_zero, List.set_cons_succ]
        refine wpTail_step rfl (fun K hK => ?_)
        go_wp2_with fail
        refine hK _ _ (six_at ((o_11.out.keep hz3).row)) ?_
        clear hK K
        try simp only [Act.put, List.setIfInBounds_toArray, List.set_cons_zero, List.set_cons_succ]
        refine wpTail_nil ?_
        go_wp2_with fail
        go_meet
        exact hI
    case rest =>
    obtain ⟨bk12, A6, c6, B6, d6, rfl, rfl, hv, hb⟩ := hcut

    have HB12 := Lib.hid (HB11.out.trans ((hb).mono HB11.out.size))
    have HW12 := Lib.hid (HW11.out.keep hb)
    have y_12 := Lib.hid (y_11.out.keep hb)
    have x_12 := Lib.hid (x_11.out.keep hb)
    have u_12 := Lib.hid (u_11.out.keep hb)
    have o_12 := Lib.hid (o_11.out.keep hb)
    have p_12 := Lib.hid (p_11.out.keep hb)
    have q_12 := Lib.hid hv
    clear hb hv hk6 hkL
    have hO2 := HO2.out
    subst hO2
    have q_12 : Hid (VarAt wc bk12 g A6 c6 B6 d6) := Lib.hid q_12.out
    have hlL : pp.l.length = 2 := by rw [HPP.out]; rfl
    have hIt := u_12.out.jc.items
    obtain ⟨ib, io, cs0, rfl, hc0, hj0⟩ := hIt 0 f (by rw [HPP.out]; rfl)
    obtain ⟨ib', io', cs1, hB, hc1, hj1⟩ := hIt 1 g (by rw [HPP.out]; rfl)
    cases hB
    obtain ⟨A7, c7, B7, d7, rfl, -⟩ := JC_iff.1 hj0
    obtain ⟨A9, c9, B9, d9, rfl, -⟩ := JC_iff.1 hj1
    have HC0 := Lib.hid hc0
    have HC1 := Lib.hid hc1
    have HJ0 := Lib.hid hj0
    have HJ1 := Lib.hid hj1
    clear hc0 hc1 hj0 hj1 hIt
    go_upto_region 16 with fail

    refine wp_region_fix (S := fun w' => Below wc.heap.size wc w') (by kernel_rfl) (by kernel_rfl) (below_drew wc) ?_
    iterate 3 (refine wpFix_pure (v := ?_) (by rfl) ?_ ?_; rotate_left; (focus (intro w1 hb; go_simp; try with_reducible rfl)); simp only [Act.put, List.setIfInBounds_toArray, List.set_cons_zero, List.set_cons_succ])
    refine wpFix_pure (v := .bool true) (by rfl) (fun w1 hb => ?_) ?_
    · go_simp
    simp only [Act.put, List.setIfInBounds_toArray, List.set_cons_zero, List.set_cons_succ]
    iterate 3 (refine wpFix_pure (v := ?_) (by rfl) ?_ ?_; rotate_left; (focus (intro w1 hb; go_simp; try with_reducible rfl)); simp only [Act.put, List.setIfInBounds_toArray, List.set_cons_zero, List.set_cons_succ])
    refine wpFix_pure (v := .bool true) (by rfl) (fun w1 hb => ?_) ?_
    · go_simp
    simp only [Act.put, List.setIfInBounds_toArray, List.set_cons_zero, List.set_cons_succ]
    iterate 8 (refine wpFix_pure (v := ?_) (by rfl) ?_ ?_; rotate_left; (focus (intro w1 hb; go_simp; try with_reducible rfl)); simp only [Act.put, List.setIfInBounds_toArray, List.set_cons_zero, List.set_cons_succ])
    iterate 1 (refine wpFix_pure (v := ?_) (by rfl) ?_ ?_; rotate_left; (focus (intro w1 hb; obtain ⟨p0, p1, p2, p3, p4, p5⟩ := six_at ((p_12.out.keep hb).row); go_simp; try with_reducible rfl)); simp only [Act.put, List.setIfInBounds_toArray, List.set_cons_zero, List.set_cons_succ])
    iterate 1 (refine wpFix_pure (v := ?_) (by rfl) ?_ ?_; rotate_left; (focus (intro w1 hb; obtain ⟨x0, x1, x2, x3, x4, x5⟩ := six_at ((x_12.out.keep hb).row); go_simp; try with_reducible rfl)); simp only [Act.put, List.setIfInBounds_toArray, List.set_cons_zero, List.set_cons_succ])
    refine wpFix_call (.bool true) (by rfl) (fun w1 hb K Q hK => ?_) ?_
    · go_wp2_with fail
      refine (HMx.out _ _ _ (p_12.out.keep hb).jc (x_12.out.keep hb).jc).mono ?_
      rintro e w2 ⟨rfl, hb2⟩
      exact hK _ (hb.trans (hb2.mono hb.size))
    simp only [Act.put, List.setIfInBounds_toArray, List.set_cons_zero, List.set_cons_succ]
    iterate 2 (refine wpFix_pure (v := ?_) (by rfl) ?_ ?_; rotate_left; (focus (intro w1 hb; go_simp; try with_reducible rfl)); simp only [Act.put, List.setIfInBounds_toArray, List.set_cons_zero, List.set_cons_succ])
    iterate 1 (refine wpFix_pure (v := ?_) (by rfl) ?_ ?_; rotate_left; (focus (intro w1 hb; obtain ⟨q0, q1, q2, q3, q4, q5⟩ := six_at ((q_12.out.keep hb).row); go_simp; try with_reducible rfl)); simp only [Act.put, List.setIfInBounds_toArray, List.set_cons_zero, List.set_cons_succ])
    iterate 1 (refine wpFix_pure (v := ?_) (by rfl) ?_ ?_; rotate_left; (focus (intro w1 hb; obtain ⟨y0, y1, y2, y3, y4, y5⟩ := six_at ((y_12.out.keep hb).row); go_simp; try with_reducible rfl)); simp only [Act.put, List.setIfInBounds_toArray, List.set_cons_zero, List.set_cons_succ])
    refine wpFix_call (.bool true) (by rfl) (fun w1 hb K Q hK => ?_) ?_
    · go_wp2_with fail
      refine (HMy.out _ _ _ (q_12.out.keep hb).jc (y_12.out.keep hb).jc).mono ?_
      rintro e w2 ⟨rfl, hb2⟩
      exact hK _ (hb.trans (hb2.mono hb.size))
    simp only [Act.put, List.setIfInBounds_toArray, List.set_cons_zero, List.set_cons_succ]
    iterate 2 (refine wpFix_pure (v := ?_) (by rfl) ?_ ?_; rotate_left; (focus (intro w1 hb; go_simp; try with_reducible rfl)); simp only [Act.put, List.setIfInBounds_toArray, List.set_cons_zero, List.set_cons_succ])
    iterate 1 (refine wpFix_pure (v := ?_) (by rfl) ?_ ?_; rotate_left; (focus (intro w1 hb; go_simp; try with_reducible rfl)); simp only [Act.put, List.setIfInBounds_toArray, List.set_cons_zero, List.set_cons_succ])
    refine wpFix_pure (v := ?_) (by rfl) ?_ ?_
    rotate_left
    · intro w1 hb
      obtain ⟨u0, u1, u2, u3, u4, u5⟩ := six_at ((u_12.out.keep hb).row)
      rw [hlL] at u5
      go_simp
      try with_reducible rfl
    simp only [Act.put, List.setIfInBounds_toArray, List.set_cons_zero, List.set_cons_succ]
    iterate 1 (refine wpFix_pure (v := ?_) (by rfl) ?_ ?_; rotate_left; (focus (intro w1 hb; go_simp; try with_reducible rfl)); simp only [Act.put, List.setIfInBounds_toArray, List.set_cons_zero, List.set_cons_succ])
    refine wpFix_pure (v := .bool true) (by rfl) (fun w1 hb => ?_) ?_
    · go_simp
    simp only [Act.put, List.setIfInBounds_toArray, List.set_cons_zero, List.set_cons_succ]
    iterate 2 (refine wpFix_pure (v := ?_) (by rfl) ?_ ?_; rotate_left; (focus (intro w1 hb; go_simp; try with_reducible rfl)); simp only [Act.put, List.setIfInBounds_toArray, List.set_cons_zero, List.set_cons_succ])
    iterate 1 (refine wpFix_pure (v := ?_) (by rfl) ?_ ?_; rotate_left; (focus (intro w1 hb; go_simp; try with_reducible rfl)); simp only [Act.put, List.setIfInBounds_toArray, List.set_cons_zero, List.set_cons_succ])
    refine wpFix_pure (v := ?_) (by rfl) ?_ ?_
    rotate_left
    · intro w1 hb
      obtain ⟨u0, u1, u2, u3, u4, u5⟩ := six_at ((u_12.out.keep hb).row)
      rw [hlL] at u5
      go_simp
      try with_reducible rfl
    simp only [Act.put, List.setIfInBounds_toArray, List.set_cons_zero, List.set_cons_succ]
    iterate 1 (refine wpFix_pure (v := ?_) (by rfl) ?_ ?_; rotate_left; (focus (intro w1 hb; go_simp; try with_reducible rfl)); simp only [Act.put, List.setIfInBounds_toArray, List.set_cons_zero, List.set_cons_succ])
    refine wpFix_pure (v := ?_) (by rfl) ?_ ?_
    rotate_left
    · intro w1 hb
      have t00 := (hb.cell (p := ⟨ib, io, none⟩) (cell_lt (HC0.out 0 _ rfl))).trans (HC0.out 0 _ rfl)
      have t10 := (hb.cell (p := ⟨ib, io + 1, none⟩) (cell_lt (HC0.out 1 _ rfl))).trans (HC0.out 1 _ rfl)
      have t20 := (hb.cell (p := ⟨ib, io + 2, none⟩) (cell_lt (HC0.out 2 _ rfl))).trans (HC0.out 2 _ rfl)
      have t30 := (hb.cell (p := ⟨ib, io + 3, none⟩) (cell_lt (HC0.out 3 _ rfl))).trans (HC0.out 3 _ rfl)
      have t40 := (hb.cell (p := ⟨ib, io + 4, none⟩) (cell_lt (HC0.out 4 _ rfl))).trans (HC0.out 4 _ rfl)
      have t50 := (hb.cell (p := ⟨ib, io + 5, none⟩) (cell_lt (HC0.out 5 _ rfl))).trans (HC0.out 5 _ rfl)
      go_simp
      try with_reducible rfl
    simp only [Act.put, List.setIfInBounds_toArray, List.set_cons_zero, List.set_cons_succ]
    iterate 1 (refine wpFix_pure (v := ?_) (by rfl) ?_ ?_; rotate_left; (focus (intro w1 hb; obtain ⟨x0, x1, x2, x3, x4, x5⟩ := six_at ((x_12.out.keep hb).row); go_simp; try with_reducible rfl)); simp only [Act.put, List.setIfInBounds_toArray, List.set_cons_zero, List.set_cons_succ])
    refine wpFix_call (.bool true) (by rfl) (fun w1 hb K Q hK => ?_) ?_
    · go_wp2_with fail
      refine (HMx.out _ _ _ (HJ0.out.keep hb) (x_12.out.keep hb).jc).mono ?_
      rintro e w2 ⟨rfl, hb2⟩
      exact hK _ (hb.trans (hb2.mono hb.size))
    simp only [Act.put, List.setIfInBounds_toArray, List.set_cons_zero, List.set_cons_succ]
    iterate 2 (refine wpFix_pure (v := ?_) (by rfl) ?_ ?_; rotate_left; (focus (intro w1 hb; go_simp; try with_reducible rfl)); simp only [Act.put, List.setIfInBounds_toArray, List.set_cons_zero, List.set_cons_succ])
    iterate 1 (refine wpFix_pure (v := ?_) (by rfl) ?_ ?_; rotate_left; (focus (intro w1 hb; go_simp; try with_reducible rfl)); simp only [Act.put, List.setIfInBounds_toArray, List.set_cons_zero, List.set_cons_succ])
    refine wpFix_pure (v := ?_) (by rfl) ?_ ?_
    rotate_left
    · intro w1 hb
      obtain ⟨u0, u1, u2, u3, u4, u5⟩ := six_at ((u_12.out.keep hb).row)
      rw [hlL] at u5
      go_simp
      try with_reducible rfl
    simp only [Act.put, List.setIfInBounds_toArray, List.set_cons_zero, List.set_cons_succ]
    iterate 1 (refine wpFix_pure (v := ?_) (by rfl) ?_ ?_; rotate_left; (focus (intro w1 hb; go_simp; try with_reducible rfl)); simp only [Act.put, List.setIfInBounds_toArray, List.set_cons_zero, List.set_cons_succ])
    refine wpFix_pure (v := ?_) (by rfl) ?_ ?_
    rotate_left
    · intro w1 hb
      have t00 := (hb.cell (p := ⟨ib, io + 6, none⟩) (cell_lt (HC1.out 0 _ rfl))).trans (HC1.out 0 _ rfl)
      have t10 := (hb.cell (p := ⟨ib, io + 6 + 1, none⟩) (cell_lt (HC1.out 1 _ rfl))).trans (HC1.out 1 _ rfl)
      have t11 := (hb.cell (p := ⟨ib, io + 7, none⟩) (cell_lt (HC1.out 1 _ rfl))).trans (HC1.out 1 _ rfl)
      have t20 := (hb.cell (p := ⟨ib, io + 6 + 2, none⟩) (cell_lt (HC1.out 2 _ rfl))).trans (HC1.out 2 _ rfl)
      have t21 := (hb.cell (p := ⟨ib, io + 8, none⟩) (cell_lt (HC1.out 2 _ rfl))).trans (HC1.out 2 _ rfl)
      have t30 := (hb.cell (p := ⟨ib, io + 6 + 3, none⟩) (cell_lt (HC1.out 3 _ rfl))).trans (HC1.out 3 _ rfl)
      have t31 := (hb.cell (p := ⟨ib, io + 9, none⟩) (cell_lt (HC1.out 3 _ rfl))).trans (HC1.out 3 _ rfl)
      have t40 := (hb.cell (p := ⟨ib, io + 6 + 4, none⟩) (cell_lt (HC1.out 4 _ rfl))).trans (HC1.out 4 _ rfl)
      have t41 := (hb.cell (p := ⟨ib, io + 10, none⟩) (cell_lt (HC1.out 4 _ rfl))).trans (HC1.out 4 _ rfl)
      have t50 := (hb.cell (p := ⟨ib, io + 6 + 5, none⟩) (cell_lt (HC1.out 5 _ rfl))).trans (HC1.out 5 _ rfl)
      have t51 := (hb.cell (p := ⟨ib, io + 11, none⟩) (cell_lt (HC1.out 5 _ rfl))).trans (HC1.out 5 _ rfl)
      go_simp
      try with_reducible rfl
    simp only [Act.put, List.setIfInBounds_toArray, List.set_cons_zero, List.set_cons_succ]
    iterate 1 (refine wpFix_pure (v := ?_) (by rfl) ?_ ?_; rotate_left; (focus (intro w1 hb; obtain ⟨y0, y1, y2, y3, y4, y5⟩ := six_at ((y_12.out.keep hb).row); go_simp; try with_reducible rfl)); simp only [Act.put, List.setIfInBounds_toArray, List.set_cons_zero, List.set_cons_succ])
    refine wpFix_call (.bool true) (by rfl) (fun w1 hb K Q hK => ?_) ?_
    · go_wp2_with fail
      refine (HMy.out _ _ _ (HJ1.out.keep hb) (y_12.out.keep hb).jc).mono ?_
      rintro e w2 ⟨rfl, hb2⟩
      exact hK _ (hb.trans (hb2.mono hb.size))
    simp only [Act.put, List.setIfInBounds_toArray, List.set_cons_zero, List.set_cons_succ]
    iterate 2 (refine wpFix_pure (v := ?_) (by rfl) ?_ ?_; rotate_left; (focus (intro w1 hb; go_simp; try with_reducible rfl)); simp only [Act.put, List.setIfInBounds_toArray, List.set_cons_zero, List.set_cons_succ])
    refine wpFix_nil ?_
    intro w9 hb9
    have HE9 := Lib.hid (HB12.out.trans (hb9.mono HB12.out.size))
    clear hb9
    go_wp2_with fail
    go_ret
    exact ⟨rfl, HE9.out⟩
end Go.Proofs.YtamclieppbnpiabGreatDoor
