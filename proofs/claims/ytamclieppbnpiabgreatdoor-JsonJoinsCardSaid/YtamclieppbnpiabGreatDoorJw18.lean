/-
  Values' texts: by the program.
-/
import Derived.Test.YtamclieppbnpiabGreatDoorProg
import Derived.Test.YtamclieppbnpiabGreatDoorReg
import Derived.WalkKit
import Derived.WalkSpells
import Derived.WalkLawsBesides
import Derived.Lib.Hide
import Derived.Lib.MinMax
import Derived.Deep.QuietTactic
import Derived.BigQuiet
import Derived.OwnWalk
import Derived.Deep.AppendLies
import Derived.KernelRfl
import Derived.Laws.RangeAny
import Derived.Laws.OwnMore
import Derived.Deep.RegionLaw
import Derived.Deep.RegionWith
import Derived.Test.YtamclieppbnpiabGreatDoorJw14
import Derived.Test.YtamclieppbnpiabGreatDoorJw12
import Derived.Test.YtamclieppbnpiabGreatDoorJw17
set_option linter.unusedSimpArgs false
set_option linter.unusedVariables false
namespace Go.Proofs.YtamclieppbnpiabGreatDoor
open Go Go.RowKit Go.Sort Go.Shelf
open Fz (HoldsS)
open Lz (wpList_append_run)

theorem join_sep : ∀ l : List (List UInt8), Lib.join l [44] = sepL l
  | [] => rfl
  | [x] => by simp [Lib.join, sepL]
  | x :: y :: l => by
    have := join_sep (y :: l)
    rw [sep_cons, ← this]
    simp [Lib.join]
theorem map_bs_data (l : List (List UInt8)) : (l.map bs).map (·.data.toList) = l := by
  rw [List.map_map]
  conv => rhs; rw [← List.map_id l]
  exact List.map_congr_left (fun x _ => bs_list x)
theorem Join_lib (l : List (List UInt8)) (base : Nat) (v : Value) (w : World) (h : w.ownsRow base sK 1 v l.length (strCells (l.map bs))) (hl : l.length ≤ 1000000000) (hs : (sepL l).length ≤ 1000000000) :
    Calls Tryz.prog 50 #[v, .string (bs [44])] w fun e w' => e = .returned (.string (bs (sepL l))) ∧ Below w.heap.size w w' := by
  obtain ⟨A, c, rfl, hc, hn, hS⟩ := holdsS_own h
  rw [List.length_map] at hn
  by_cases h0 : l.length = 0
  · have e := List.length_eq_zero_iff.1 h0
    subst e
    exact (Lay_strings_Join_none A c (bs [44]) w).mono fun e w' ⟨h1, h2⟩ => ⟨h1, by rw [h2]; exact Below.refl _ _⟩
  · obtain ⟨b, off, rfl, hcell⟩ := holds_cells hS (by rw [List.length_map]; omega)
    have hb := cell_lt (hcell 0 (by rw [List.length_map]; omega))
    have hj : Lib.join ((l.map bs).map (·.data.toList)) (bs [44]).data.toList = sepL l := by rw [map_bs_data, bs_list, join_sep]
    have := Lay_strings_Join b off c (l.map bs) (bs [44]) w (fun j x hx => by
      have hj := (List.getElem?_eq_some_iff.1 hx).1
      rw [hcell j hj, List.getD_eq_getElem?_getD, hx]; rfl) hb (by rw [List.length_map]; omega) (by rw [List.length_map]; omega) (by rw [hj]; omega)
    rw [hj, List.length_map] at this
    exact this
theorem keys_valid : ∀ (l pre : List ByteArray), keysGo pre l = true → ∀ k ∈ l, validB k = true
  | [], _, _, k, h => by cases h
  | x :: l, pre, h, k, hk => by
    rw [keysGo] at h
    simp only [Bool.and_eq_true] at h
    rcases List.mem_cons.1 hk with rfl | hk
    · exact h.1
    · exact keys_valid l _ h.2.2 k hk
theorem pair_get : ∀ (ks : List ByteArray) (l : List (List UInt8)) (k : Nat) (y : ByteArray) (x : List UInt8), ks[k]? = some y → l[k]? = some x → (pairL ks l)[k]? = some (quoteL y.data.toList ++ 58 :: x)
  | y :: ks, x :: l, 0, y', x', h1, h2 => by
    simp only [List.getElem?_cons_zero, Option.some.injEq] at h1 h2
    subst h1 h2
    rfl
  | y :: ks, x :: l, k + 1, y', x', h1, h2 => by
    simp only [pairL, List.getElem?_cons_succ] at h1 h2 ⊢
    exact pair_get ks l k y' x' h1 h2
  | [], _, _, _, _, h1, _ => by simp at h1
  | _ :: _, [], _, _, _, _, h2 => by simp at h2
/-- What 'text' says of a value. -/
def TextAt (a : Addr) (x : Js) : Prop := ∀ (d : Nat) (cs : List Value) (W : World), rightJ d x = true → fitJ x → (jtext x).length ≤ 1000000000 → JC W x cs → WJ a W → Calls Tryz.prog 15 #[.agg cs.toArray] W fun e w' => e = .returned (.string (bs (jtext x))) ∧ Below W.heap.size W w'
theorem strs_snoc (l : List (List UInt8)) (k : Nat) (x : List UInt8) (h : l[k]? = some x) : ((l.take k).map bs) ++ [bs x] = (l.take (k + 1)).map bs := by
  rw [List.take_add_one, h]
  simp

set_option maxRecDepth 100000 in
set_option maxHeartbeats 8000000 in
theorem group_list (a : Addr) (v : Js) (d : Nat) (hk : v.kind = 4) (hr : rightJ d v = true) (hf : fitJ v) (hlen : (jtext v).length ≤ 1000000000) (IH : ∀ x ∈ v.l, TextAt a x) (cs : List Value) (w : World) (hJ : JC w v cs) (hW : WJ a w) :
    Calls Tryz.prog 28 #[.agg cs.toArray] w fun e w' => e = .returned (.string (bs (jtext v))) ∧ Below w.heap.size w w' := by
  obtain ⟨h1, h2⟩ := right_items hr
  obtain ⟨p1, p2, p3, p4, p5⟩ := right_parts h1
  have hf2 := (fitJ_iff.1 hf).2
  have hT : jtext v = 91 :: (sepL (v.l.map jtext) ++ [93]) := by obtain ⟨k, y, n, s, ks, l⟩ := v; simp only [Js.kind] at hk; subst hk; simp [jtext, jtexts_map, Js.l]
  have hsl : (sepL (v.l.map jtext)).length ≤ 999999999 := by rw [hT] at hlen; simp at hlen; omega
  obtain ⟨A1, c1, B1, d1, rfl, hS1, hc1, hd1, hL1⟩ := JC_iff.1 hJ
  have hl : v.l.length ≤ 1000000000 := by omega
  have IH2 : Hid (∀ x ∈ v.l, ∀ (cs : List Value) (W : World), JC W x cs → WJ a W → Calls Tryz.prog 15 #[.agg cs.toArray] W fun e w' => e = .returned (.string (bs (jtext x))) ∧ Below W.heap.size W w') := Lib.hid (fun x hx cs W hc hw => by
    obtain ⟨e, _, he⟩ := h2 x hx
    exact IH x hx e cs W he (hf2 x hx) (by have := p5 x hx; omega) hc hw)
  have HT := Lib.hid hT
  have HW := Lib.hid hW
  have HL := Lib.hid hL1
  have HB0 := Lib.hid (below_new w (.cells #[.int .i64 v.kind, .bool v.yes, .int .i64 v.n, .string v.s, .slice A1 v.keys.length c1, .slice B1 v.l.length d1] tJ))
  have HX0 := Lib.hid (heap_alloc_new w (.cells #[.int .i64 v.kind, .bool v.yes, .int .i64 v.n, .string v.s, .slice A1 v.keys.length c1, .slice B1 v.l.length d1] tJ))
  have hz0 : (w.alloc (.cells #[.int .i64 v.kind, .bool v.yes, .int .i64 v.n, .string v.s, .slice A1 v.keys.length c1, .slice B1 v.l.length d1] tJ)).heap.size = w.heap.size + 1 := by simp
  clear h1 h2 p1 p2 p3 p4 p5 hf2 hT hJ hW hS1 hL1 IH hr hf hlen
  have HK := Lib.hid hk
  have q4 : (v.kind == 5) = false := by rw [hk]; rfl
  clear hk
  go_enter Tryz.func28, Tryz.ntmps28
  go_wp2_with fail
  generalize w.alloc (.cells #[.int .i64 v.kind, .bool v.yes, .int .i64 v.n, .string v.s, .slice A1 v.keys.length c1, .slice B1 v.l.length d1] tJ) = W0 at *
  go_loopw [3, 11] (fun lv i wr => ∃ (k : Nat), i = .int .i64 k ∧ k ≤ v.l.length ∧ Hid (wr.ownsRow (w.heap.size + 1) sK 1 lv ((v.l.map jtext).take k).length (strCells (((v.l.map jtext).take k).map bs))) ∧ Hid (Below (w.heap.size + 1) W0 wr)) (fun _ i _ => v.l.length - (intOf i).toNat)
  case atStart => exact ⟨0, rfl, Nat.zero_le _, Lib.hid (World.ownsRow_nil _ _ _ _), Lib.hid (Below.refl _ _)⟩
  case round =>
    obtain ⟨k, rfl, hk, HO, HB⟩ := hrel
    have i0 : (0 : Int) ≤ (k : Int) := by omega
    have hszr := HB.out.size
    have hX : wr.heap[w.heap.size]? = _ := (HB.out.block w.heap.size (by omega)).trans HX0.out
    have hlow := Lib.hid (HB0.out.trans (HB.out.mono (by omega)))
    by_cases h1 : k < v.l.length
    · have i1 : (k : Int) < (v.l.length : Int) := by omega
      have gx := List.getElem?_eq_getElem (l := v.l) (i := k) h1
      have HC := Lib.hid (IH2.out _ (List.getElem_mem h1))
      have hst := strs_snoc (v.l.map jtext) k _ (by rw [List.getElem?_map, gx]; rfl)
      have hlt : ((v.l.map jtext).take k).length = k := by simp; omega
      generalize v.l[k]'h1 = x at *
      obtain ⟨b1, o1, cs, rfl, hcs1, hJ1⟩ := (HL.out.below hlow.out) k x gx
      have HJ1 := Lib.hid hJ1
      obtain ⟨A2, c2, B2, d2, rfl, _, _, _, _, e0, e1, e2, e3, e4, e5⟩ := six (off := o1 + k * 6) hJ1 hcs1
      obtain ⟨f0, f1, f2, f3, f4, f5⟩ : wr.cell? ⟨w.heap.size, 0, none⟩ = some (.int .i64 v.kind) ∧ wr.cell? ⟨w.heap.size, 1, none⟩ = some (.bool v.yes) ∧ wr.cell? ⟨w.heap.size, 2, none⟩ = some (.int .i64 v.n) ∧ wr.cell? ⟨w.heap.size, 3, none⟩ = some (.string v.s) ∧ wr.cell? ⟨w.heap.size, 4, none⟩ = some (.slice A1 v.keys.length c1) ∧ wr.cell? ⟨w.heap.size, 5, none⟩ = some (.slice (some ⟨b1, o1, none⟩) v.l.length d1) := by simp [World.cell?, hX]
      have HST := Lib.hid hst
      have hbX := Lib.hid (fun o => below_new wr o)
      clear hcs1 gx hJ1 hst hX
      go_wp2_with fail
      refine (HC.out _ _ (HJ1.out.keep (hbX.out _)) (HW.out.keep (hlow.out.trans ((hbX.out _).mono hlow.out.size)))).mono ?_
      rintro e w3 ⟨rfl, hb3⟩
      have HB3 := Lib.hid ((hbX.out _).trans (hb3.mono (hbX.out _).size))
      have g0 := cells_keep HB3.out f0
      clear hb3 f0 f1 f2 f3 f4 f5 e0 e1 e2 e3 e4 e5
      have HB4 := Lib.hid (HB.out.trans (HB3.out.mono (by omega)))
      have hz3 := HB4.out.size
      have HO3 := Lib.hid (own_same HO.out (fun g hg => HB3.out.block g (HO.out.lt g hg).2))
      clear HO HC
      obtain ⟨A9, c9, w9, hrun, hN9, hgr9, _⟩ := push_str (x := bs (jtext x)) (g := w3.heap.size) (W := w3.alloc (.cells #[.string (bs (jtext x))] sK)) (l := ((v.l.map jtext).take k).map bs) (base := w.heap.size + 1) (heap_alloc_new w3 _) (by rw [List.length_map]; exact own_same HO3.out (fun g hg => (below_new w3 _).block g (HO3.out.lt g hg).2)) (by rw [List.length_map]; omega) (by simp; omega)
      rw [HST.out] at hN9
      rw [List.length_map, hlt] at hrun
      simp only [List.length_map, hlt] at hN9
      have HN9 := Lib.hid hN9
      have HB9 := Lib.hid ((HB4.out.trans ((below_new w3 _).mono (by omega))).grown hgr9 (by simp; omega) (fun k e => (HO3.out.lt k e).1))
      clear hN9 hgr9
      go_wp2_with (at_builtin; go_must (refine wpList_append_run rfl _ _ 22 22 rfl rfl rfl hrun ?_))
      go_roundw
      case rel => exact ⟨k + 1, by go_num, by omega, HN9, HB9⟩
      case measure => simp [intOf]; omega
    · obtain rfl : k = v.l.length := by omega
      have hO := HO.out
      rw [List.take_of_length_le (by simp)] at hO
      have HJn := Lib.hid (Join_lib (v.l.map jtext) _ _ wr hO (by simp; omega) (by omega))
      obtain ⟨f0, f1, f2, f3, f4, f5⟩ : wr.cell? ⟨w.heap.size, 0, none⟩ = some (.int .i64 v.kind) ∧ wr.cell? ⟨w.heap.size, 1, none⟩ = some (.bool v.yes) ∧ wr.cell? ⟨w.heap.size, 2, none⟩ = some (.int .i64 v.n) ∧ wr.cell? ⟨w.heap.size, 3, none⟩ = some (.string v.s) ∧ wr.cell? ⟨w.heap.size, 4, none⟩ = some (.slice A1 v.keys.length c1) ∧ wr.cell? ⟨w.heap.size, 5, none⟩ = some (.slice B1 v.l.length d1) := by simp [World.cell?, hX]
      clear hX hO HO
      go_wp2_with fail
      refine HJn.out.mono ?_
      rintro e w3 ⟨rfl, hb3⟩
      have HB3 := Lib.hid (hlow.out.trans (hb3.mono hlow.out.size))
      have g0 := cells_keep hb3 f0
      clear hb3 f0 f1 f2 f3 f4 f5
      generalize sepL (v.l.map jtext) = t at *
      have hts : (bs t).size ≤ 999999999 := by rw [bs_size]; exact hsl
      go_wp2_with fail
      go_ret
      refine ⟨?_, HB3.out⟩
      rw [HT.out]
      have e : (⟨#[91]⟩ : ByteArray) ++ bs t ++ ⟨#[93]⟩ = bs (91 :: (t ++ [93])) := by
        show bs [91] ++ bs t ++ bs [93] = _
        rw [bs_app, bs_app]; rfl
      simpa using e
set_option maxRecDepth 100000 in
set_option maxHeartbeats 8000000 in
theorem group_obj (a : Addr) (v : Js) (d : Nat) (hk : v.kind = 5) (hr : rightJ d v = true) (hf : fitJ v) (hlen : (jtext v).length ≤ 1000000000) (IH : ∀ x ∈ v.l, TextAt a x) (cs : List Value) (w : World) (hJ : JC w v cs) (hW : WJ a w) :
    Calls Tryz.prog 28 #[.agg cs.toArray] w fun e w' => e = .returned (.string (bs (jtext v))) ∧ Below w.heap.size w w' := by
  obtain ⟨h1, h2⟩ := right_items hr
  obtain ⟨p1, p2, p3, p4, p5⟩ := right_parts h1
  have hf2 := (fitJ_iff.1 hf).2
  have hT : jtext v = 123 :: (sepL (pairL v.keys (v.l.map jtext)) ++ [125]) := by obtain ⟨k, y, n, s, ks, l⟩ := v; simp only [Js.kind] at hk; subst hk; simp [jtext, jtexts_map, Js.l, Js.keys]
  have hkk : decide (v.keys.length = v.l.length) = true ∧ keysOk v.keys = true := by
    have := own_k5 (d := d) hk
    rw [h1] at this
    have := this.symm
    simp only [Bool.and_eq_true] at this
    exact ⟨this.1.1.2, this.1.2⟩
  have hkl : v.keys.length = v.l.length := by simpa using hkk.1
  have HKL := Lib.hid hkl
  have HV := Lib.hid (keys_valid v.keys [] hkk.2)
  have HKz := Lib.hid p4
  have HXz := Lib.hid p5
  have HLn := Lib.hid hlen
  clear hkk
  have hsl : (sepL (pairL v.keys (v.l.map jtext))).length ≤ 999999999 := by rw [hT] at hlen; simp at hlen; omega
  obtain ⟨A1, c1, B1, d1, rfl, hS1, hc1, hd1, hL1⟩ := JC_iff.1 hJ
  have hl : v.l.length ≤ 1000000000 := by omega
  have IH2 : Hid (∀ x ∈ v.l, ∀ (cs : List Value) (W : World), JC W x cs → WJ a W → Calls Tryz.prog 15 #[.agg cs.toArray] W fun e w' => e = .returned (.string (bs (jtext x))) ∧ Below W.heap.size W w') := Lib.hid (fun x hx cs W hc hw => by
    obtain ⟨e, _, he⟩ := h2 x hx
    exact IH x hx e cs W he (hf2 x hx) (by have := p5 x hx; omega) hc hw)
  have HT := Lib.hid hT
  have HW := Lib.hid hW
  have HL := Lib.hid hL1
  have HSk := Lib.hid hS1
  have HB0 := Lib.hid (below_new w (.cells #[.int .i64 v.kind, .bool v.yes, .int .i64 v.n, .string v.s, .slice A1 v.keys.length c1, .slice B1 v.l.length d1] tJ))
  have HX0 := Lib.hid (heap_alloc_new w (.cells #[.int .i64 v.kind, .bool v.yes, .int .i64 v.n, .string v.s, .slice A1 v.keys.length c1, .slice B1 v.l.length d1] tJ))
  have hz0 : (w.alloc (.cells #[.int .i64 v.kind, .bool v.yes, .int .i64 v.n, .string v.s, .slice A1 v.keys.length c1, .slice B1 v.l.length d1] tJ)).heap.size = w.heap.size + 1 := by simp
  clear h1 h2 p1 p2 p3 p4 p5 hf2 hT hJ hW hS1 hL1 IH hr hf hlen
  have HK := Lib.hid hk
  have q4 : (v.kind == 5) = true := by rw [hk]; rfl
  have hpl : (pairL v.keys (v.l.map jtext)).length = v.l.length := by rw [pair_len _ _ (by simpa using hkl), List.length_map]
  have HPL := Lib.hid hpl
  clear hpl hkl
  clear hk
  go_enter Tryz.func28, Tryz.ntmps28
  go_wp2_with fail
  generalize w.alloc (.cells #[.int .i64 v.kind, .bool v.yes, .int .i64 v.n, .string v.s, .slice A1 v.keys.length c1, .slice B1 v.l.length d1] tJ) = W0 at *
  go_loopw [3, 11] (fun lv i wr => ∃ (k : Nat), i = .int .i64 k ∧ k ≤ v.l.length ∧ Hid (wr.ownsRow (w.heap.size + 1) sK 1 lv ((pairL v.keys (v.l.map jtext)).take k).length (strCells (((pairL v.keys (v.l.map jtext)).take k).map bs))) ∧ Hid (Below (w.heap.size + 1) W0 wr)) (fun _ i _ => v.l.length - (intOf i).toNat)
  case atStart => exact ⟨0, rfl, Nat.zero_le _, Lib.hid (World.ownsRow_nil _ _ _ _), Lib.hid (Below.refl _ _)⟩
  case round =>
    obtain ⟨k, rfl, hk, HO, HB⟩ := hrel
    have i0 : (0 : Int) ≤ (k : Int) := by omega
    have hszr := HB.out.size
    have hX : wr.heap[w.heap.size]? = _ := (HB.out.block w.heap.size (by omega)).trans HX0.out
    have hlow := Lib.hid (HB0.out.trans (HB.out.mono (by omega)))
    by_cases h1 : k < v.l.length
    · have i1 : (k : Int) < (v.l.length : Int) := by omega
      have gx := List.getElem?_eq_getElem (l := v.l) (i := k) h1
      have HC := Lib.hid (IH2.out _ (List.getElem_mem h1))
      have gy := List.getElem?_eq_getElem (l := v.keys) (i := k) (by rw [HKL.out]; omega)
      have hvy := Lib.hid (HV.out _ (List.getElem_mem (show k < v.keys.length by rw [HKL.out]; omega)))
      have hzy := HKz.out _ (List.getElem_mem (show k < v.keys.length by rw [HKL.out]; omega))
      have hzx := HXz.out _ (List.getElem_mem h1)
      have hlv := HLn.out
      generalize v.keys[k]'(by rw [HKL.out]; omega) = y at *
      have i4 : (k : Int) < (v.keys.length : Int) := by rw [HKL.out]; omega
      have hst := strs_snoc (pairL v.keys (v.l.map jtext)) k _ (pair_get _ _ k y _ gy (by rw [List.getElem?_map, gx]; rfl))
      have hlt : ((pairL v.keys (v.l.map jtext)).take k).length = k := by rw [List.length_take, HPL.out]; omega
      generalize v.l[k]'h1 = x at *
      obtain ⟨b1, o1, cs, rfl, hcs1, hJ1⟩ := (HL.out.below hlow.out) k x gx
      have HJ1 := Lib.hid hJ1
      obtain ⟨b3, o3, rfl, e6⟩ := (HSk.out.below hlow.out) k y gy
      have hyl : y.data.toList.length = y.size := Array.length_toList
      have hQt := fun W => quoted_any y.data.toList W (by omega) hvy.out
      have hql := (quote_len y.data.toList).2
      rw [bs_of] at hQt
      have HQt := Lib.hid hQt
      have hz1 : (bs (quoteL y.data.toList)).size ≤ 10000000000 := by rw [bs_size]; omega
      have hz2 : (bs (jtext x)).size ≤ 1000000000 := by rw [bs_size]; omega
      have HEq : Hid (bs (quoteL y.data.toList) ++ ⟨#[58]⟩ ++ bs (jtext x) = bs (quoteL y.data.toList ++ 58 :: jtext x)) := Lib.hid (by
        show bs _ ++ bs [58] ++ bs _ = _
        rw [bs_app, bs_app]; simp)
      generalize quoteL y.data.toList = qy at *
      clear hQt hql hyl gy
      obtain ⟨A2, c2, B2, d2, rfl, _, _, _, _, e0, e1, e2, e3, e4, e5⟩ := six (off := o1 + k * 6) hJ1 hcs1
      obtain ⟨f0, f1, f2, f3, f4, f5⟩ : wr.cell? ⟨w.heap.size, 0, none⟩ = some (.int .i64 v.kind) ∧ wr.cell? ⟨w.heap.size, 1, none⟩ = some (.bool v.yes) ∧ wr.cell? ⟨w.heap.size, 2, none⟩ = some (.int .i64 v.n) ∧ wr.cell? ⟨w.heap.size, 3, none⟩ = some (.string v.s) ∧ wr.cell? ⟨w.heap.size, 4, none⟩ = some (.slice (some ⟨b3, o3, none⟩) v.keys.length c1) ∧ wr.cell? ⟨w.heap.size, 5, none⟩ = some (.slice (some ⟨b1, o1, none⟩) v.l.length d1) := by simp [World.cell?, hX]
      have HST := Lib.hid hst
      have hbX := Lib.hid (fun o => below_new wr o)
      clear hcs1 gx hJ1 hst hX
      go_wp2_with fail
      refine (HC.out _ _ (HJ1.out.keep (hbX.out _)) (HW.out.keep (hlow.out.trans ((hbX.out _).mono hlow.out.size)))).mono ?_
      rintro e w3 ⟨rfl, hb3⟩
      have HB3 := Lib.hid ((hbX.out _).trans (hb3.mono (hbX.out _).size))
      have g0 := cells_keep HB3.out f0
      have g4 := cells_keep HB3.out f4
      have g6 := cells_keep HB3.out e6
      clear hb3 e6 f0 f1 f2 f3 f4 f5 e0 e1 e2 e3 e4 e5
      have HB4 := Lib.hid (HB.out.trans (HB3.out.mono (by omega)))
      have hz3 := HB4.out.size
      have HO3 := Lib.hid (own_same HO.out (fun g hg => HB3.out.block g (HO.out.lt g hg).2))
      clear HO HC
      go_wp2_with fail
      refine (HQt.out _).mono ?_
      rintro e w5 ⟨rfl, hb5⟩
      replace HB4 := Lib.hid (HB4.out.trans (hb5.mono (by omega)))
      replace HO3 := Lib.hid (own_same HO3.out (fun g hg => hb5.block g (HO3.out.lt g hg).2))
      replace hz3 := HB4.out.size
      clear hb5 g0 g4 g6
      obtain ⟨A9, c9, w9, hrun, hN9, hgr9, _⟩ := push_str (x := bs qy ++ ⟨#[58]⟩ ++ bs (jtext x)) (g := w5.heap.size) (W := w5.alloc (.cells #[.string (bs qy ++ ⟨#[58]⟩ ++ bs (jtext x))] sK)) (l := ((pairL v.keys (v.l.map jtext)).take k).map bs) (base := w.heap.size + 1) (heap_alloc_new w5 _) (by rw [List.length_map]; exact own_same HO3.out (fun g hg => (below_new w5 _).block g (HO3.out.lt g hg).2)) (by rw [List.length_map]; omega) (by simp; omega)
      rw [HEq.out, HST.out] at hN9
      rw [List.length_map, hlt] at hrun
      simp only [List.length_map, hlt] at hN9
      have HN9 := Lib.hid hN9
      have HB9 := Lib.hid ((HB4.out.trans ((below_new w5 _).mono (by omega))).grown hgr9 (by simp; omega) (fun k e => (HO3.out.lt k e).1))
      clear hN9 hgr9
      go_wp2_with (at_builtin; go_must (refine wpList_append_run rfl _ _ 22 22 rfl rfl rfl hrun ?_))
      go_roundw
      case rel => exact ⟨k + 1, by go_num, by omega, HN9, HB9⟩
      case measure => simp [intOf]; omega
    · obtain rfl : k = v.l.length := by omega
      have hO := HO.out
      rw [List.take_of_length_le (by rw [HPL.out]; omega)] at hO
      have HJn := Lib.hid (Join_lib (pairL v.keys (v.l.map jtext)) _ _ wr hO (by rw [HPL.out]; omega) (by omega))
      obtain ⟨f0, f1, f2, f3, f4, f5⟩ : wr.cell? ⟨w.heap.size, 0, none⟩ = some (.int .i64 v.kind) ∧ wr.cell? ⟨w.heap.size, 1, none⟩ = some (.bool v.yes) ∧ wr.cell? ⟨w.heap.size, 2, none⟩ = some (.int .i64 v.n) ∧ wr.cell? ⟨w.heap.size, 3, none⟩ = some (.string v.s) ∧ wr.cell? ⟨w.heap.size, 4, none⟩ = some (.slice A1 v.keys.length c1) ∧ wr.cell? ⟨w.heap.size, 5, none⟩ = some (.slice B1 v.l.length d1) := by simp [World.cell?, hX]
      clear hX hO HO
      go_wp2_with fail
      refine HJn.out.mono ?_
      rintro e w3 ⟨rfl, hb3⟩
      have HB3 := Lib.hid (hlow.out.trans (hb3.mono hlow.out.size))
      have g0 := cells_keep hb3 f0
      clear hb3 f0 f1 f2 f3 f4 f5
      generalize sepL (pairL v.keys (v.l.map jtext)) = t at *
      have hts : (bs t).size ≤ 999999999 := by rw [bs_size]; exact hsl
      go_wp2_with fail
      go_ret
      refine ⟨?_, HB3.out⟩
      rw [HT.out]
      have e : (⟨#[123]⟩ : ByteArray) ++ bs t ++ ⟨#[125]⟩ = bs (123 :: (t ++ [125])) := by
        show bs [123] ++ bs t ++ bs [125] = _
        rw [bs_app, bs_app]; rfl
      simpa using e
theorem own_kind {d : Nat} {v : Js} (h : ownJ d v = true) : v.kind = 0 ∨ v.kind = 1 ∨ v.kind = 2 ∨ v.kind = 3 ∨ v.kind = 4 ∨ v.kind = 5 := by
  by_cases c0 : v.kind = 0
  · exact .inl c0
  by_cases c1 : v.kind = 1
  · exact .inr (.inl c1)
  by_cases c2 : v.kind = 2
  · exact .inr (.inr (.inl c2))
  by_cases c3 : v.kind = 3
  · exact .inr (.inr (.inr (.inl c3)))
  by_cases c4 : v.kind = 4
  · exact .inr (.inr (.inr (.inr (.inl c4))))
  by_cases c5 : v.kind = 5
  · exact .inr (.inr (.inr (.inr (.inr c5))))
  rw [own_k6 c0 c1 c2 c3 c4 c5] at h
  cases h
set_option maxRecDepth 100000 in
set_option maxHeartbeats 8000000 in
theorem text_step (a : Addr) (v : Js) (IH : ∀ x ∈ v.l, TextAt a x) : TextAt a v := by
  intro d cs w hr hf hlen hJ hW
  have ho := (right_items hr).1
  have hn := (fitJ_iff.1 hf).1
  have HG4 := Lib.hid (fun (h : v.kind = 4) (cs : List Value) (W : World) hJ hW => group_list a v d h hr hf hlen IH cs W hJ hW)
  have HG5 := Lib.hid (fun (h : v.kind = 5) (cs : List Value) (W : World) hJ hW => group_obj a v d h hr hf hlen IH cs W hJ hW)
  have HW := Lib.hid hW
  have HJ := Lib.hid hJ
  have hs := (right_parts ho).1
  have HB := Lib.hid (fun o => below_new w o)
  have hT : jtext v = if v.kind = 1 then (if v.yes then [116, 114, 117, 101] else [102, 97, 108, 115, 101]) else if v.kind = 2 then Lib.itoa v.n else if v.kind = 3 then quoteL v.s.data.toList else if v.kind = 4 then jtext v else if v.kind = 5 then jtext v else [110, 117, 108, 108] := by
    by_cases c4 : v.kind = 4
    · simp [c4]
    by_cases c5 : v.kind = 5
    · simp [c5]
    obtain ⟨k, y, n, s, ks, l⟩ := v
    simp only [Js.kind] at c4 c5
    by_cases c1 : k = 1
    · cases y <;> simp [jtext, Js.kind, Js.yes, c1]
    by_cases c2 : k = 2
    · simp [jtext, Js.kind, Js.n, c2]
    by_cases c3 : k = 3
    · simp [jtext, Js.kind, Js.s, c3]
    simp [jtext, Js.kind, c1, c2, c3, c4, c5]
  obtain ⟨A1, c1, B1, d1, rfl, hS1, hc1, hd1, hL1⟩ := JC_iff.1 hJ
  have HT := Lib.hid hT
  have HO := Lib.hid ho
  clear hJ hW hS1 hL1 IH hr hf hT ho
  rcases own_kind HO.out with h | h | h | h | h | h
  · have q : (v.kind == 1) = false ∧ (v.kind == 2) = false ∧ (v.kind == 3) = false ∧ (v.kind == 4) = false ∧ (v.kind == 5) = false := by rw [h]; decide
    obtain ⟨q1, q2, q3, q4, q5⟩ := q
    have HE : Hid (jtext v = [110, 117, 108, 108]) := Lib.hid (by rw [HT.out]; simp [h])
    clear h
    go_enter Tryz.func15, Tryz.ntmps15
    go_wp2_with fail
    go_ret
    exact ⟨by rw [HE.out]; rfl, HB.out _⟩
  · have q1 : (v.kind == 1) = true := by rw [h]; decide
    have HE : Hid (jtext v = if v.yes then [116, 114, 117, 101] else [102, 97, 108, 115, 101]) := Lib.hid (by rw [HT.out]; simp [h])
    have HC := Lib.hid (fun W => Bool_lib v.yes W)
    rw [← HE.out] at HC
    clear h
    go_enter Tryz.func15, Tryz.ntmps15
    go_wp2_with fail
    refine (HC.out _).mono ?_
    rintro e w1 ⟨rfl, rfl⟩
    go_wp2_with fail
    go_ret
    exact ⟨rfl, HB.out _⟩
  · have q : (v.kind == 1) = false ∧ (v.kind == 2) = true := by rw [h]; decide
    obtain ⟨q1, q2⟩ := q
    have HE : Hid (jtext v = Lib.itoa v.n) := Lib.hid (by rw [HT.out]; simp [h])
    have HC := Lib.hid (fun W h => Format_lib v.n a W hn h)
    rw [← HE.out] at HC
    clear h
    go_enter Tryz.func15, Tryz.ntmps15
    go_wp2_with fail
    refine (HC.out _ (HW.out.keep (HB.out _))).mono ?_
    rintro e w1 ⟨rfl, hb1⟩
    have HB1 := Lib.hid ((HB.out _).trans (hb1.mono (HB.out _).size))
    clear hb1
    go_wp2_with fail
    go_ret
    exact ⟨rfl, HB1.out⟩
  · have q : (v.kind == 1) = false ∧ (v.kind == 2) = false ∧ (v.kind == 3) = true := by rw [h]; decide
    obtain ⟨q1, q2, q3⟩ := q
    have HE : Hid (jtext v = quoteL v.s.data.toList) := Lib.hid (by rw [HT.out]; simp [h])
    have hv : validB v.s = true := by
      have := own_k3 (d := d) h
      rw [HO.out] at this
      have := this.symm
      simp only [Bool.and_eq_true] at this
      exact this.2
    have hsl : v.s.data.toList.length = v.s.size := Array.length_toList
    have hQ := fun W => quoted_any v.s.data.toList W (by omega) hv
    rw [bs_of, ← HE.out] at hQ
    have HC := Lib.hid hQ
    clear h hQ hv hsl
    go_enter Tryz.func15, Tryz.ntmps15
    go_wp2_with fail
    refine (HC.out _).mono ?_
    rintro e w1 ⟨rfl, hb1⟩
    have HB1 := Lib.hid ((HB.out _).trans (hb1.mono (HB.out _).size))
    clear hb1
    go_wp2_with fail
    go_ret
    exact ⟨rfl, HB1.out⟩
  · have q : (v.kind == 1) = false ∧ (v.kind == 2) = false ∧ (v.kind == 3) = false ∧ (v.kind == 4) = true := by rw [h]; decide
    obtain ⟨q1, q2, q3, q4⟩ := q
    have HC := Lib.hid (HG4.out h)
    clear h HG4 HG5
    go_enter Tryz.func15, Tryz.ntmps15
    go_wp2_with fail
    refine (HC.out _ _ (HJ.out.keep (HB.out _)) (HW.out.keep (HB.out _))).mono ?_
    rintro e w1 ⟨rfl, hb1⟩
    have HB1 := Lib.hid ((HB.out _).trans (hb1.mono (HB.out _).size))
    clear hb1
    go_wp2_with fail
    go_ret
    exact ⟨rfl, HB1.out⟩
  · have q : (v.kind == 1) = false ∧ (v.kind == 2) = false ∧ (v.kind == 3) = false ∧ (v.kind == 4) = false ∧ (v.kind == 5) = true := by rw [h]; decide
    obtain ⟨q1, q2, q3, q4, q5⟩ := q
    have HC := Lib.hid (HG5.out h)
    clear h HG4 HG5
    go_enter Tryz.func15, Tryz.ntmps15
    go_wp2_with fail
    refine (HC.out _ _ (HJ.out.keep (HB.out _)) (HW.out.keep (HB.out _))).mono ?_
    rintro e w1 ⟨rfl, hb1⟩
    have HB1 := Lib.hid ((HB.out _).trans (hb1.mono (HB.out _).size))
    clear hb1
    go_wp2_with fail
    go_ret
    exact ⟨rfl, HB1.out⟩
theorem text_any (a : Addr) (v : Js) : TextAt a v := by
  induction v using Js.ind with
  | _ v ih => exact text_step a v ih
set_option maxRecDepth 100000 in
set_option maxHeartbeats 4000000 in
/-- 'Print'. -/
theorem Print_any (a : Addr) (M : Nat) (hM : M ≤ 1000000000) (v : Js) (hok : okJ M v) (hlen : rightJ 64 v = true → (jtext v).length ≤ 1000000000) (cs : List Value) (w : World) (hJ : JC w v cs) (hW : WJ a w) :
    Calls Tryz.prog 7 #[.agg cs.toArray] w fun e w' => e = .returned (.tuple #[.string (bs (if rightJ 64 v then jtext v else [])), .int .i64 (if rightJ 64 v then 0 else 150)]) ∧ Below w.heap.size w w' := by
  have HB := Lib.hid (fun o => below_new w o)
  have HJ := Lib.hid hJ
  have HW := Lib.hid hW
  have HC := Lib.hid (fun W h1 h2 => Right_any a M hM v hok cs W h1 h2)
  have HT := Lib.hid (fun (h : rightJ 64 v = true) W h1 h2 => text_any a v 64 cs W h (okJ.fit v hok) (hlen h) h1 h2)
  obtain ⟨A1, c1, B1, d1, rfl, hS1, hc1, hd1, hL1⟩ := JC_iff.1 hJ
  have he := hW.err
  have le := cell_lt he
  simp only at le
  clear hJ hW hS1 hL1 hok hlen he
  cases hr : rightJ 64 v with
  | false =>
    rw [hr] at HC
    clear HT
    go_enter Tryz.func7, Tryz.ntmps7
    go_wp2_with fail
    refine (HC.out _ (HJ.out.keep (HB.out _)) (HW.out.keep (HB.out _))).mono ?_
    rintro e w1 ⟨rfl, hb1⟩
    have HB1 := Lib.hid ((HB.out _).trans (hb1.mono (HB.out _).size))
    have he := (HW.out.keep HB1.out).err
    clear hb1
    go_wp2_with fail
    refine (told_sent a _ (HW.out.keep HB1.out)).mono ?_
    rintro e w2 ⟨rfl, hb2⟩
    have HB2 := Lib.hid (HB1.out.trans (hb2.mono HB1.out.size))
    clear hb2
    go_wp2_with fail
    go_ret2
    exact ⟨rfl, HB2.out⟩
  | true =>
    rw [hr] at HC
    have HT2 := Lib.hid (HT.out hr)
    clear HT
    go_enter Tryz.func7, Tryz.ntmps7
    go_wp2_with fail
    refine (HC.out _ (HJ.out.keep (HB.out _)) (HW.out.keep (HB.out _))).mono ?_
    rintro e w1 ⟨rfl, hb1⟩
    have HB1 := Lib.hid ((HB.out _).trans (hb1.mono (HB.out _).size))
    have hJ1 := Lib.hid (HJ.out.keep HB1.out)
    have y0 := cells_keep hb1 (box_one w _ 0 _ rfl)
    have y1 := cells_keep hb1 (box_one w _ 1 _ rfl)
    have y2 := cells_keep hb1 (box_one w _ 2 _ rfl)
    have y3 := cells_keep hb1 (box_one w _ 3 _ rfl)
    have y4 := cells_keep hb1 (box_one w _ 4 _ rfl)
    have y5 := cells_keep hb1 (box_one w _ 5 _ rfl)
    clear hb1
    go_wp2_with fail
    refine (HT2.out _ hJ1.out (HW.out.keep HB1.out)).mono ?_
    rintro e w2 ⟨rfl, hb2⟩
    have HB2 := Lib.hid (HB1.out.trans (hb2.mono HB1.out.size))
    clear hb2
    go_wp2_with fail
    go_ret2
    exact ⟨rfl, HB2.out⟩
end Go.Proofs.YtamclieppbnpiabGreatDoor
