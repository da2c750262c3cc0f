/-
  A value: by the program.
-/
import Derived.Test.YtamclieppbnpiabGreatDoorProg
import Derived.Test.YtamclieppbnpiabGreatDoorReg
import Derived.WalkKit
import Derived.WalkSpells
import Derived.WalkLawsBesides
import Derived.Lib.Hide
import Derived.Lib.MinMax
import Derived.Deep.QuietTactic
import Derived.BigQuiet
import Derived.OwnWalk
import Derived.Deep.AppendLies
import Derived.KernelRfl
import Derived.Test.YtamclieppbnpiabGreatDoorJw22
import Derived.Test.YtamclieppbnpiabGreatDoorJw23
set_option linter.unusedSimpArgs false
set_option linter.unusedVariables false
namespace Go.Proofs.YtamclieppbnpiabGreatDoor
open Go Go.RowKit Go.Maps
open Fz (HoldsS)

/-- The reading of a list's, an object's items, so deep. -/
def itemsAt (d : Nat) (obj : Bool) (r : List UInt8) : Got := match d with | 0 => .error 151 | d + 1 => itemsL (valueL d) obj r
theorem valueL_plain (d : Nat) {l : List UInt8} (h : ¬ (firstB l = 91 ∨ firstB l = 123 ∨ firstB l = 34)) : valueL d l = plainL l := by
  cases l with
  | nil => rw [valueL.eq_def]
  | cons c r => exact plain_head (fun e => h (.inr (.inr (by rw [e]; rfl)))) (fun e => h (.inl (by rw [e]; rfl))) (fun e => h (.inr (.inl (by rw [e]; rfl))))
theorem valueL_word (d : Nat) (r : List UInt8) : valueL d (34 :: r) = (match wordL r with | .error e => .error e | .ok (k, q) => .ok (textJ k, q)) := by rw [valueL.eq_def]; rfl
theorem valueL_list (d : Nat) (r : List UInt8) : valueL d (91 :: r) = itemsAt d false r := by
  rw [valueL.eq_def]
  cases d <;> rfl
theorem valueL_object (d : Nat) (r : List UInt8) : valueL d (123 :: r) = itemsAt d true r := by
  rw [valueL.eq_def]
  cases d <;> rfl
def ItemsOk (d : Nat) : Prop := ∀ (a : Addr) (R : Nat) (obj : Bool) (c : UInt8) (r : List UInt8) (nest : Int) (w : World) (E : Got), itemsAt d obj r = E → nest = 64 - (d : Int) → RdAt w R (c :: r) nest .nilIface → r.length ≤ 100000000 → WJ a w → 9 ≤ R →
  Calls Tryz.prog 57 #[.pointer (some ⟨R, 0, none⟩), .int .i64 (kindJ obj), .string (bs [endJ obj])] w fun e w' => GotPost a R nest E e w w'
set_option maxRecDepth 100000 in
set_option maxHeartbeats 4000000 in
theorem items_deep (a : Addr) (R : Nat) (obj : Bool) (l : List UInt8) (w : World) (h : RdAt w R l 64 .nilIface) (hW : WJ a w) :
    Calls Tryz.prog 57 #[.pointer (some ⟨R, 0, none⟩), .int .i64 (kindJ obj), .string (bs [endJ obj])] w fun e w' => GotPost a R 64 (.error 151) e w w' := by
  have lR := h.lt
  have hk := @hmf_any
  have hb1 := below_new w (.cells #[.pointer (some ⟨R, 0, none⟩)] 47)
  have hb2 := below_new (w.alloc (.cells #[.pointer (some ⟨R, 0, none⟩)] 47)) (.cells #[.int .i64 0, .bool false, .int .i64 0, .string ⟨#[]⟩, .slice none 0 0, .slice none 0 0] tJ)
  have hb3 := below_new ((w.alloc (.cells #[.pointer (some ⟨R, 0, none⟩)] 47)).alloc (.cells #[.int .i64 0, .bool false, .int .i64 0, .string ⟨#[]⟩, .slice none 0 0, .slice none 0 0] tJ)) (.cells #[.int .i64 (kindJ obj), .bool false, .int .i64 0, .string ⟨#[]⟩, .slice none 0 0, .slice none 0 0] tJ)
  have hx1 := heap_alloc_new w (.cells #[.pointer (some ⟨R, 0, none⟩)] 47)
  have hx2 := heap_alloc_new (w.alloc (.cells #[.pointer (some ⟨R, 0, none⟩)] 47)) (.cells #[.int .i64 0, .bool false, .int .i64 0, .string ⟨#[]⟩, .slice none 0 0, .slice none 0 0] tJ)
  have hx3 := heap_alloc_new ((w.alloc (.cells #[.pointer (some ⟨R, 0, none⟩)] 47)).alloc (.cells #[.int .i64 0, .bool false, .int .i64 0, .string ⟨#[]⟩, .slice none 0 0, .slice none 0 0] tJ)) (.cells #[.int .i64 (kindJ obj), .bool false, .int .i64 0, .string ⟨#[]⟩, .slice none 0 0, .slice none 0 0] tJ)
  have hz1 : (w.alloc (.cells #[.pointer (some ⟨R, 0, none⟩)] 47)).heap.size = w.heap.size + 1 := by simp
  have hz2 : ((w.alloc (.cells #[.pointer (some ⟨R, 0, none⟩)] 47)).alloc (.cells #[.int .i64 0, .bool false, .int .i64 0, .string ⟨#[]⟩, .slice none 0 0, .slice none 0 0] tJ)).heap.size = w.heap.size + 2 := by simp
  rw [hz1] at hb2 hx2
  rw [hz2] at hb3 hx3
  have hbV := (hb1.trans (hb2.mono (by omega))).trans (hb3.mono (by omega))
  have hXB := (hb3.block w.heap.size (by omega)).trans ((hb2.block w.heap.size (by omega)).trans hx1)
  have hXF := (hb3.block (w.heap.size + 1) (by omega)).trans hx2
  clear hb1 hb2 hb3 hx1 hx2 hz1 hz2
  refine calls_of_calm Tryz.func57 rfl ?_
  simp only [Tryz.ntmps57, List.size_toArray, List.length_cons, List.length_nil, Nat.reduceAdd, Nat.reduceSub, Array.replicate_succ, Array.replicate_zero, List.push_toArray, List.append_toArray, List.nil_append, List.cons_append]
  go_upto_region 2 with fail
  generalize ((w.alloc (.cells #[.pointer (some ⟨R, 0, none⟩)] 47)).alloc (.cells #[.int .i64 0, .bool false, .int .i64 0, .string ⟨#[]⟩, .slice none 0 0, .slice none 0 0] tJ)).alloc (.cells #[.int .i64 (kindJ obj), .bool false, .int .i64 0, .string ⟨#[]⟩, .slice none 0 0, .slice none 0 0] tJ) = V at *
  have HRV := Lib.hid (h.below hbV)
  have HFl := Lib.hid (fail_any a R 151 l 64 .nilIface V HRV.out (.nil a) (hW.keep hbV))
  have b0 : V.cell? ⟨w.heap.size, 0, none⟩ = some (.pointer (some ⟨R, 0, none⟩)) := by simp [World.cell?, hXB]
  have c1 := HRV.out.c1
  have lRV := HRV.out.lt
  have HXF := Lib.hid hXF
  have HX3 := Lib.hid hx3
  have HBV := Lib.hid hbV
  clear hXF hx3 hXB h hW hbV
  go_wp2_with fail
  refine HFl.out.mono ?_
  rintro e w1 ⟨rfl, hs⟩
  have lV1 := (Array.getElem?_eq_some_iff.1 HXF.out).1
  have lV2 := (Array.getElem?_eq_some_iff.1 HX3.out).1
  have hX1 := (hs.2.block (w.heap.size + 1) lV1 (by omega)).trans HXF.out
  have hY1 := (hs.2.block (w.heap.size + 2) lV2 (by omega)).trans HX3.out
  have HS1 := Lib.hid (show Steps w w1 R l 64 (errV a 151) from ⟨hs.1, but_trans (but_below' HBV.out) hs.2 HBV.out.size⟩)
  obtain ⟨y0, y1, y2, y3, y4, y5⟩ := six_at hX1
  obtain ⟨x0, x1, x2, x3, x4, x5⟩ := six_at hY1
  have z2 := fun j => frozen_of_row w1 _ j _ _ hX1
  have lF := (Array.getElem?_eq_some_iff.1 hX1).1
  have HX1 := Lib.hid hX1
  clear hs hX1 hY1 lV1 lV2 b0 c1
  go_wp2_with fail
  have hR9 := set6 (b0 := .int .i64 (kindJ obj)) (b1 := .bool false) (b2 := .int .i64 0) (b3 := .string ⟨#[]⟩) (b4 := .slice none 0 0) (b5 := .slice none 0 0) HX1.out
  have hS9 := set6_steps HS1.out (Nat.le_succ _) lR (.int .i64 (kindJ obj)) (.bool false) (.int .i64 0) (.string ⟨#[]⟩) (.slice none 0 0) (.slice none 0 0)
  generalize ((((((w1.setCell ⟨w.heap.size + 1, 0, none⟩ (.int .i64 (kindJ obj))).setCell ⟨w.heap.size + 1, 1, none⟩ (.bool false)).setCell ⟨w.heap.size + 1, 2, none⟩ (.int .i64 0)).setCell ⟨w.heap.size + 1, 3, none⟩ (.string ⟨#[]⟩)).setCell ⟨w.heap.size + 1, 4, none⟩ (.slice none 0 0)).setCell ⟨w.heap.size + 1, 5, none⟩ (.slice none 0 0)) = W9 at *
  obtain ⟨v0, v1, v2, v3, v4, v5⟩ := six_at hR9
  exact ⟨.agg #[.int .i64 (kindJ obj), .bool false, .int .i64 0, .string ⟨#[]⟩, .slice none 0 0, .slice none 0 0], by simp [results, Tryz.results57, go_sem, v0, v1, v2, v3, v4, v5], .mk (kindJ obj) false 0 ByteArray.empty [] [], l, ⟨_, rfl, JD_flat _ _ (kindJ obj) 0 false ByteArray.empty⟩, hS9⟩
theorem items_ok (d : Nat) (hd : d ≤ 64) (H : ∀ e, d = e + 1 → ValAt e) : ItemsOk d := by
  intro a R obj c r nest w E hE hn h hl hW hR
  cases d with
  | zero =>
    obtain rfl : nest = 64 := by omega
    unfold itemsAt at hE
    subst hE
    exact items_deep a R obj (c :: r) w h hW
  | succ e => exact items_any e (by omega) (H e rfl) a R obj c r nest w E hE (by omega) h hl hW hR

/-- A value handed on by the result's own cells. -/
theorem six_end {a : Addr} {R : Nat} {nest : Int} {E : Got} {w V w2 : World} {x : Js} {q : List UInt8} {ev : Value} {A8 B8 : Option Addr} {c8 d8 : Nat} (hK : Lz.KeptBut w.heap.size R w V) (hz : w.heap.size < V.heap.size) (hR : R < w.heap.size)
    (hX : V.heap[w.heap.size]? = some (.cells #[.int .i64 0, .bool false, .int .i64 0, .string ⟨#[]⟩, .slice none 0 0, .slice none 0 0] tJ (0, 0))) (hs : Steps V w2 R q nest ev)
    (hc : (ev = .nilIface ∧ E = .ok (x, q)) ∨ ∃ c, ev = errV a c ∧ E = .error c) (hJ : JD (fun b => V.heap.size ≤ b ∧ b < w2.heap.size) w2 x [.int .i64 x.kind, .bool x.yes, .int .i64 x.n, .string x.s, .slice A8 x.keys.length c8, .slice B8 x.l.length d8]) (W9 : World)
    (hW9 : W9 = ((((((w2.setCell ⟨w.heap.size, 0, none⟩ (.int .i64 x.kind)).setCell ⟨w.heap.size, 1, none⟩ (.bool x.yes)).setCell ⟨w.heap.size, 2, none⟩ (.int .i64 x.n)).setCell ⟨w.heap.size, 3, none⟩ (.string x.s)).setCell ⟨w.heap.size, 4, none⟩ (.slice A8 x.keys.length c8)).setCell ⟨w.heap.size, 5, none⟩ (.slice B8 x.l.length d8))) :
    W9.heap[w.heap.size]? = some (.cells #[.int .i64 x.kind, .bool x.yes, .int .i64 x.n, .string x.s, .slice A8 x.keys.length c8, .slice B8 x.l.length d8] tJ (0, 0)) ∧ GotPost a R nest E (.returned (.agg #[.int .i64 x.kind, .bool x.yes, .int .i64 x.n, .string x.s, .slice A8 x.keys.length c8, .slice B8 x.l.length d8])) w W9 := by
  have hX2 := (hs.2.block w.heap.size hz (by omega)).trans hX
  have hs9 : W9.heap.size = w2.heap.size := by rw [hW9]; exact set6_size _ _ _ _ _ _
  have ho : ∀ k, k ≠ w.heap.size → W9.heap[k]? = w2.heap[k]? := fun k hk => by rw [hW9]; exact set6_other hk _ _ _ _ _ _
  have hS : Steps w w2 R q nest ev := ⟨hs.1, but_trans hK hs.2 (Nat.le_of_lt hz)⟩
  refine ⟨by rw [hW9]; exact set6 hX2, GotPost.ofEv hc ⟨_, rfl, ?_⟩ (by rw [hW9]; exact set6_steps hS (Nat.le_refl _) hR _ _ _ _ _ _)⟩
  exact (hJ.stay (fun b hb => ho b (by omega))).mono (fun b hb => ⟨by omega, by omega⟩)
theorem zero_row (w : World) : (w.alloc (.cells #[.int .i64 0, .bool false, .int .i64 0, .string ⟨#[]⟩, .slice none 0 0, .slice none 0 0] tJ)).heap[w.heap.size]? = some (.cells #[.int .i64 0, .bool false, .int .i64 0, .string ⟨#[]⟩, .slice none 0 0, .slice none 0 0] tJ (0, 0)) := heap_alloc_new w _

set_option maxRecDepth 100000 in
set_option maxHeartbeats 4000000 in
theorem list_any (d : Nat) (H : ItemsOk d) (a : Addr) (R : Nat) (c : UInt8) (r : List UInt8) (nest : Int) (w : World) (E : Got) (hE : itemsAt d false r = E) (hn : nest = 64 - (d : Int)) (h : RdAt w R (c :: r) nest .nilIface) (hl : r.length ≤ 100000000) (hW : WJ a w) (hR : 9 ≤ R) :
    Calls Tryz.prog 35 #[.pointer (some ⟨R, 0, none⟩)] w fun e w' => GotPost a R nest E e w w' := by
  have lR := h.lt
  have hb0 := below_new w (.cells #[.int .i64 0, .bool false, .int .i64 0, .string ⟨#[]⟩, .slice none 0 0, .slice none 0 0] tJ)
  have HX := Lib.hid (zero_row w)
  have HI := Lib.hid (H a R false c r nest (w.alloc (.cells #[.int .i64 0, .bool false, .int .i64 0, .string ⟨#[]⟩, .slice none 0 0, .slice none 0 0] tJ)) E hE hn (h.below hb0) hl (hW.keep hb0) hR)
  have HK := Lib.hid (show Lz.KeptBut w.heap.size R w (w.alloc (.cells #[.int .i64 0, .bool false, .int .i64 0, .string ⟨#[]⟩, .slice none 0 0, .slice none 0 0] tJ)) ∧ w.heap.size < (w.alloc (.cells #[.int .i64 0, .bool false, .int .i64 0, .string ⟨#[]⟩, .slice none 0 0, .slice none 0 0] tJ)).heap.size from ⟨but_below' hb0, by simp⟩)
  clear h hE hn hW hb0
  go_enter Tryz.func35, Tryz.ntmps35
  go_wp2_with fail
  generalize w.alloc (.cells #[.int .i64 0, .bool false, .int .i64 0, .string ⟨#[]⟩, .slice none 0 0, .slice none 0 0] tJ) = V at *
  refine HI.out.mono ?_
  intro e w2 hp
  obtain ⟨x, q, ev, hf, hs, hc⟩ := hp.ev
  obtain ⟨A8, c8, B8, d8, rfl, hJ⟩ := hf.six
  have hX2 := (hs.2.block w.heap.size HK.out.2 (by omega)).trans HX.out
  obtain ⟨x0, x1, x2, x3, x4, x5⟩ := six_at hX2
  have z2 := fun j => frozen_of_row w2 _ j _ _ hX2
  have lX2 := (Array.getElem?_eq_some_iff.1 hX2).1
  have HS2 := Lib.hid hs
  have HC2 := Lib.hid hc
  have HJ2 := Lib.hid hJ
  clear hp hf hs hc hJ hX2
  go_wp2_with fail
  obtain ⟨W9, hW9⟩ : ∃ W9, W9 = ((((((w2.setCell ⟨w.heap.size, 0, none⟩ (.int .i64 x.kind)).setCell ⟨w.heap.size, 1, none⟩ (.bool x.yes)).setCell ⟨w.heap.size, 2, none⟩ (.int .i64 x.n)).setCell ⟨w.heap.size, 3, none⟩ (.string x.s)).setCell ⟨w.heap.size, 4, none⟩ (.slice A8 x.keys.length c8)).setCell ⟨w.heap.size, 5, none⟩ (.slice B8 x.l.length d8)) := ⟨_, rfl⟩
  obtain ⟨g3, g4⟩ := six_end (a := a) (E := E) HK.out.1 HK.out.2 lR HX.out HS2.out HC2.out HJ2.out W9 hW9
  rw [← hW9]
  obtain ⟨v0, v1, v2, v3, v4, v5⟩ := six_at g3
  exact bodyPost_ret (v := .agg #[.int .i64 x.kind, .bool x.yes, .int .i64 x.n, .string x.s, .slice A8 x.keys.length c8, .slice B8 x.l.length d8]) (by simp [results, Tryz.results35, go_sem, v0, v1, v2, v3, v4, v5]) rfl g4
set_option maxRecDepth 100000 in
set_option maxHeartbeats 4000000 in
theorem object_any (d : Nat) (H : ItemsOk d) (a : Addr) (R : Nat) (c : UInt8) (r : List UInt8) (nest : Int) (w : World) (E : Got) (hE : itemsAt d true r = E) (hn : nest = 64 - (d : Int)) (h : RdAt w R (c :: r) nest .nilIface) (hl : r.length ≤ 100000000) (hW : WJ a w) (hR : 9 ≤ R) :
    Calls Tryz.prog 36 #[.pointer (some ⟨R, 0, none⟩)] w fun e w' => GotPost a R nest E e w w' := by
  have lR := h.lt
  have hb0 := below_new w (.cells #[.int .i64 0, .bool false, .int .i64 0, .string ⟨#[]⟩, .slice none 0 0, .slice none 0 0] tJ)
  have HX := Lib.hid (zero_row w)
  have HI := Lib.hid (H a R true c r nest (w.alloc (.cells #[.int .i64 0, .bool false, .int .i64 0, .string ⟨#[]⟩, .slice none 0 0, .slice none 0 0] tJ)) E hE hn (h.below hb0) hl (hW.keep hb0) hR)
  have HK := Lib.hid (show Lz.KeptBut w.heap.size R w (w.alloc (.cells #[.int .i64 0, .bool false, .int .i64 0, .string ⟨#[]⟩, .slice none 0 0, .slice none 0 0] tJ)) ∧ w.heap.size < (w.alloc (.cells #[.int .i64 0, .bool false, .int .i64 0, .string ⟨#[]⟩, .slice none 0 0, .slice none 0 0] tJ)).heap.size from ⟨but_below' hb0, by simp⟩)
  clear h hE hn hW hb0
  go_enter Tryz.func36, Tryz.ntmps36
  go_wp2_with fail
  generalize w.alloc (.cells #[.int .i64 0, .bool false, .int .i64 0, .string ⟨#[]⟩, .slice none 0 0, .slice none 0 0] tJ) = V at *
  refine HI.out.mono ?_
  intro e w2 hp
  obtain ⟨x, q, ev, hf, hs, hc⟩ := hp.ev
  obtain ⟨A8, c8, B8, d8, rfl, hJ⟩ := hf.six
  have hX2 := (hs.2.block w.heap.size HK.out.2 (by omega)).trans HX.out
  obtain ⟨x0, x1, x2, x3, x4, x5⟩ := six_at hX2
  have z2 := fun j => frozen_of_row w2 _ j _ _ hX2
  have lX2 := (Array.getElem?_eq_some_iff.1 hX2).1
  have HS2 := Lib.hid hs
  have HC2 := Lib.hid hc
  have HJ2 := Lib.hid hJ
  clear hp hf hs hc hJ hX2
  go_wp2_with fail
  obtain ⟨W9, hW9⟩ : ∃ W9, W9 = ((((((w2.setCell ⟨w.heap.size, 0, none⟩ (.int .i64 x.kind)).setCell ⟨w.heap.size, 1, none⟩ (.bool x.yes)).setCell ⟨w.heap.size, 2, none⟩ (.int .i64 x.n)).setCell ⟨w.heap.size, 3, none⟩ (.string x.s)).setCell ⟨w.heap.size, 4, none⟩ (.slice A8 x.keys.length c8)).setCell ⟨w.heap.size, 5, none⟩ (.slice B8 x.l.length d8)) := ⟨_, rfl⟩
  obtain ⟨g3, g4⟩ := six_end (a := a) (E := E) HK.out.1 HK.out.2 lR HX.out HS2.out HC2.out HJ2.out W9 hW9
  rw [← hW9]
  obtain ⟨v0, v1, v2, v3, v4, v5⟩ := six_at g3
  exact bodyPost_ret (v := .agg #[.int .i64 x.kind, .bool x.yes, .int .i64 x.n, .string x.s, .slice A8 x.keys.length c8, .slice B8 x.l.length d8]) (by simp [results, Tryz.results36, go_sem, v0, v1, v2, v3, v4, v5]) rfl g4
set_option maxRecDepth 100000 in
set_option maxHeartbeats 8000000 in
theorem value_any (d : Nat) (hd : d ≤ 64) (H : ItemsOk d) : ValAt d := by
  intro a R l nest w E hE hn h hl hW hR
  have lR := h.lt
  have hk := Tryz.underlying5
  have ht := Tryz.underlying82
  have hmm := @run_makeMap Tryz.prog
  have hmf := @hmf_any
  have hb0 := below_new w (.cells #[.int .i64 0, .bool false, .int .i64 0, .string ⟨#[]⟩, .slice none 0 0, .slice none 0 0] tJ)
  have hX0 := zero_row w
  have hz0 : (w.alloc (.cells #[.int .i64 0, .bool false, .int .i64 0, .string ⟨#[]⟩, .slice none 0 0, .slice none 0 0] tJ)).heap.size = w.heap.size + 1 := by simp
  generalize hw0 : w.alloc (.cells #[.int .i64 0, .bool false, .int .i64 0, .string ⟨#[]⟩, .slice none 0 0, .slice none 0 0] tJ) = w0 at *
  have hbm : Below w0.heap.size w0 (w0.alloc (.map #[] 0)) := below_new w0 _
  have st : ∀ {p q : World}, Below w0.heap.size w0 p → p.grownBy q (some w0.heap.size) → Below w0.heap.size w0 q := fun hp hg => hp.grown hg hp.size (fun k hk => by cases hk; omega)
  obtain ⟨u1, r1, m1, g1⟩ := (MapIsU.made w0 Tryz.prog 5).put hk ht (by unfold maxLen; omega) 91 (by decide) (.func (.func 35) #[.pointer (some ⟨R, 0, none⟩)] #[])
  have hb1 := st hbm g1
  obtain ⟨u2, r2, m2, g2⟩ := m1.put hk ht (by unfold maxLen; omega) 123 (by decide) (.func (.func 36) #[.pointer (some ⟨R, 0, none⟩)] #[])
  have hb2 := st hb1 g2
  obtain ⟨u3, r3, m3, g3⟩ := m2.put hk ht (by unfold maxLen; omega) 34 (by decide) (.func (.func 37) #[.pointer (some ⟨R, 0, none⟩)] #[])
  have hb3 := st hb2 g3
  have hget := m3.get true hk ht (z := .nilFunc) (by kernel_rfl) (firstB l) (wf_byte (firstB_lt l))
  have hbA := hb0.trans (hb3.mono (by omega))
  have HX := Lib.hid ((hb3.block w.heap.size (by omega)).trans hX0)
  have HR3 := Lib.hid (h.below hbA)
  have HW3 := Lib.hid (hW.keep hbA)
  have HK := Lib.hid (show Lz.KeptBut w.heap.size R w u3 ∧ w.heap.size < u3.heap.size from ⟨but_below' hbA, by have := hb3.size; omega⟩)
  have HF := Lib.hid (first_any R l u3 HR3.out.c0)
  clear hbm st hb1 g1 m1 hb2 g2 m2 hb3 g3 m3 hb0 hX0 hbA h hW hz0 hk ht
  by_cases hf : firstB l = 91 ∨ firstB l = 123 ∨ firstB l = 34
  · obtain ⟨c, r, rfl⟩ : ∃ c r, l = c :: r := by
      cases l with
      | nil => simp [firstB] at hf
      | cons c r => exact ⟨c, r, rfl⟩
    have hl2 : r.length ≤ 100000000 := by simp at hl; omega
    have hfc : firstB (c :: r) = c.toNat := rfl
    rw [hfc] at hf hget HF
    clear hfc
    rcases hf with hf | hf | hf
    · obtain rfl : c = 91 := UInt8.toNat_inj.1 (by rw [hf]; rfl)
      have HV := Lib.hid (list_any d H a R 91 r nest u3 E (by rw [← hE, valueL_list]) hn HR3.out hl2 HW3.out hR)
      have hf2 : (((91 : UInt8).toNat : Nat) : Int) = 91 := rfl
      rw [hf2] at hget HF
      simp only [show ((91 : Int) = 34) = False from by simp, show ((91 : Int) = 123) = False from by simp, show ((91 : Int) = 91) = True from by simp, if_true, if_false, Option.getD_some, Option.isSome_some] at hget
      have HN := Lib.hid hn
      clear hf hf2 hE hn hl
      go_enter Tryz.func19, Tryz.ntmps19
      go_wp2_with fail
      refine HF.out.mono ?_
      rintro e w9 ⟨rfl, hw⟩
      subst w9
      go_wp2_with fail
      refine HV.out.mono ?_
      intro e w2 hp
      obtain ⟨x, q, ev, hf, hs, hc⟩ := hp.ev
      obtain ⟨A8, c8, B8, d8, rfl, hJ⟩ := hf.six
      have hX2 := (hs.2.block w.heap.size HK.out.2 (by omega)).trans HX.out
      obtain ⟨x0, x1, x2, x3, x4, x5⟩ := six_at hX2
      have z2 := fun j => frozen_of_row w2 _ j _ _ hX2
      have lX2 := (Array.getElem?_eq_some_iff.1 hX2).1
      have HS2 := Lib.hid hs
      have HC2 := Lib.hid hc
      have HJ2 := Lib.hid hJ
      clear hp hf hs hc hJ hX2
      go_wp2_with fail
      obtain ⟨W9, hW9⟩ : ∃ W9, W9 = ((((((w2.setCell ⟨w.heap.size, 0, none⟩ (.int .i64 x.kind)).setCell ⟨w.heap.size, 1, none⟩ (.bool x.yes)).setCell ⟨w.heap.size, 2, none⟩ (.int .i64 x.n)).setCell ⟨w.heap.size, 3, none⟩ (.string x.s)).setCell ⟨w.heap.size, 4, none⟩ (.slice A8 x.keys.length c8)).setCell ⟨w.heap.size, 5, none⟩ (.slice B8 x.l.length d8)) := ⟨_, rfl⟩
      obtain ⟨g3, g4⟩ := six_end (a := a) (E := E) HK.out.1 HK.out.2 lR HX.out HS2.out HC2.out HJ2.out W9 hW9
      rw [← hW9]
      obtain ⟨v0, v1, v2, v3, v4, v5⟩ := six_at g3
      exact bodyPost_ret (v := .agg #[.int .i64 x.kind, .bool x.yes, .int .i64 x.n, .string x.s, .slice A8 x.keys.length c8, .slice B8 x.l.length d8]) (by simp [results, Tryz.results19, go_sem, v0, v1, v2, v3, v4, v5]) rfl g4
    · obtain rfl : c = 123 := UInt8.toNat_inj.1 (by rw [hf]; rfl)
      have HV := Lib.hid (object_any d H a R 123 r nest u3 E (by rw [← hE, valueL_object]) hn HR3.out hl2 HW3.out hR)
      have hf2 : (((123 : UInt8).toNat : Nat) : Int) = 123 := rfl
      rw [hf2] at hget HF
      simp only [show ((123 : Int) = 34) = False from by simp, show ((123 : Int) = 123) = True from by simp, show ((123 : Int) = 91) = False from by simp, if_true, if_false, Option.getD_some, Option.isSome_some] at hget
      have HN := Lib.hid hn
      clear hf hf2 hE hn hl
      go_enter Tryz.func19, Tryz.ntmps19
      go_wp2_with fail
      refine HF.out.mono ?_
      rintro e w9 ⟨rfl, hw⟩
      subst w9
      go_wp2_with fail
      refine HV.out.mono ?_
      intro e w2 hp
      obtain ⟨x, q, ev, hf, hs, hc⟩ := hp.ev
      obtain ⟨A8, c8, B8, d8, rfl, hJ⟩ := hf.six
      have hX2 := (hs.2.block w.heap.size HK.out.2 (by omega)).trans HX.out
      obtain ⟨x0, x1, x2, x3, x4, x5⟩ := six_at hX2
      have z2 := fun j => frozen_of_row w2 _ j _ _ hX2
      have lX2 := (Array.getElem?_eq_some_iff.1 hX2).1
      have HS2 := Lib.hid hs
      have HC2 := Lib.hid hc
      have HJ2 := Lib.hid hJ
      clear hp hf hs hc hJ hX2
      go_wp2_with fail
      obtain ⟨W9, hW9⟩ : ∃ W9, W9 = ((((((w2.setCell ⟨w.heap.size, 0, none⟩ (.int .i64 x.kind)).setCell ⟨w.heap.size, 1, none⟩ (.bool x.yes)).setCell ⟨w.heap.size, 2, none⟩ (.int .i64 x.n)).setCell ⟨w.heap.size, 3, none⟩ (.string x.s)).setCell ⟨w.heap.size, 4, none⟩ (.slice A8 x.keys.length c8)).setCell ⟨w.heap.size, 5, none⟩ (.slice B8 x.l.length d8)) := ⟨_, rfl⟩
      obtain ⟨g3, g4⟩ := six_end (a := a) (E := E) HK.out.1 HK.out.2 lR HX.out HS2.out HC2.out HJ2.out W9 hW9
      rw [← hW9]
      obtain ⟨v0, v1, v2, v3, v4, v5⟩ := six_at g3
      exact bodyPost_ret (v := .agg #[.int .i64 x.kind, .bool x.yes, .int .i64 x.n, .string x.s, .slice A8 x.keys.length c8, .slice B8 x.l.length d8]) (by simp [results, Tryz.results19, go_sem, v0, v1, v2, v3, v4, v5]) rfl g4
    · obtain rfl : c = 34 := UInt8.toNat_inj.1 (by rw [hf]; rfl)
      have HV := Lib.hid (jtext_any a R 34 r nest u3 E (by rw [← hE, valueL_word]; cases wordL r <;> rfl) HR3.out hl2 HW3.out hR)
      have hf2 : (((34 : UInt8).toNat : Nat) : Int) = 34 := rfl
      rw [hf2] at hget HF
      simp only [show ((34 : Int) = 34) = True from by simp, show ((34 : Int) = 123) = False from by simp, show ((34 : Int) = 91) = False from by simp, if_true, if_false, Option.getD_some, Option.isSome_some] at hget
      have HN := Lib.hid hn
      clear hf hf2 hE hn hl
      go_enter Tryz.func19, Tryz.ntmps19
      go_wp2_with fail
      refine HF.out.mono ?_
      rintro e w9 ⟨rfl, hw⟩
      subst w9
      go_wp2_with fail
      refine HV.out.mono ?_
      intro e w2 hp
      obtain ⟨x, q, ev, hf, hs, hc⟩ := hp.ev
      obtain ⟨A8, c8, B8, d8, rfl, hJ⟩ := hf.six
      have hX2 := (hs.2.block w.heap.size HK.out.2 (by omega)).trans HX.out
      obtain ⟨x0, x1, x2, x3, x4, x5⟩ := six_at hX2
      have z2 := fun j => frozen_of_row w2 _ j _ _ hX2
      have lX2 := (Array.getElem?_eq_some_iff.1 hX2).1
      have HS2 := Lib.hid hs
      have HC2 := Lib.hid hc
      have HJ2 := Lib.hid hJ
      clear hp hf hs hc hJ hX2
      go_wp2_with fail
      obtain ⟨W9, hW9⟩ : ∃ W9, W9 = ((((((w2.setCell ⟨w.heap.size, 0, none⟩ (.int .i64 x.kind)).setCell ⟨w.heap.size, 1, none⟩ (.bool x.yes)).setCell ⟨w.heap.size, 2, none⟩ (.int .i64 x.n)).setCell ⟨w.heap.size, 3, none⟩ (.string x.s)).setCell ⟨w.heap.size, 4, none⟩ (.slice A8 x.keys.length c8)).setCell ⟨w.heap.size, 5, none⟩ (.slice B8 x.l.length d8)) := ⟨_, rfl⟩
      obtain ⟨g3, g4⟩ := six_end (a := a) (E := E) HK.out.1 HK.out.2 lR HX.out HS2.out HC2.out HJ2.out W9 hW9
      rw [← hW9]
      obtain ⟨v0, v1, v2, v3, v4, v5⟩ := six_at g3
      exact bodyPost_ret (v := .agg #[.int .i64 x.kind, .bool x.yes, .int .i64 x.n, .string x.s, .slice A8 x.keys.length c8, .slice B8 x.l.length d8]) (by simp [results, Tryz.results19, go_sem, v0, v1, v2, v3, v4, v5]) rfl g4
  · have n1 : ((firstB l : Int) = 34) = False := by simp; omega
    have n2 : ((firstB l : Int) = 123) = False := by simp; omega
    have n3 : ((firstB l : Int) = 91) = False := by simp; omega
    simp only [n1, n2, n3, if_false, Option.getD_none, Option.isSome_none] at hget
    rw [valueL_plain d hf, plain_lit] at hE
    have hbS := below_new u3 (.cells #[.string ⟨#[110, 117, 108, 108]⟩, .string ⟨#[116, 114, 117, 101]⟩, .string ⟨#[102, 97, 108, 115, 101]⟩] sK)
    have hzS : (u3.alloc (.cells #[.string ⟨#[110, 117, 108, 108]⟩, .string ⟨#[116, 114, 117, 101]⟩, .string ⟨#[102, 97, 108, 115, 101]⟩] sK)).heap.size = u3.heap.size + 1 := by simp
    have hRS := HR3.out.below hbS
    have HL := Lib.hid (literal_any R u3.heap.size l nest _ _ rfl hRS (heap_alloc_new u3 _) (by have := HR3.out.lt; omega))
    have HX4 := Lib.hid ((hbS.block w.heap.size HK.out.2).trans HX.out)
    have HW4 := Lib.hid (HW3.out.keep hbS)
    have HK4 := Lib.hid (show Lz.KeptBut w.heap.size R w (u3.alloc (.cells #[.string ⟨#[110, 117, 108, 108]⟩, .string ⟨#[116, 114, 117, 101]⟩, .string ⟨#[102, 97, 108, 115, 101]⟩] sK)) ∧ w.heap.size < (u3.alloc (.cells #[.string ⟨#[110, 117, 108, 108]⟩, .string ⟨#[116, 114, 117, 101]⟩, .string ⟨#[102, 97, 108, 115, 101]⟩] sK)).heap.size from ⟨but_trans HK.out.1 (but_below' hbS) (Nat.le_of_lt HK.out.2), by have := HK.out.2; omega⟩)
    have HN := Lib.hid hn
    clear n1 n2 n3 hf hn hbS hzS hRS HX HK HW3
    cases ho : litL l with
    | some p =>
      obtain ⟨⟨k, y⟩, q⟩ := p
      rw [ho] at hE HL
      have HE := Lib.hid hE
      clear hE ho
      go_enter Tryz.func19, Tryz.ntmps19
      go_wp2_with fail
      refine HF.out.mono ?_
      rintro e w9 ⟨rfl, hw⟩
      subst w9
      go_wp2_with fail
      refine HL.out.mono ?_
      rintro e w5 ⟨rfl, hs⟩
      unfold litV
      have hX5 := (hs.2.block w.heap.size HK4.out.2 (by omega)).trans HX4.out
      have HS5 := Lib.hid hs
      have HX5 := Lib.hid hX5
      have lX5 := (Array.getElem?_eq_some_iff.1 hX5).1
      obtain ⟨x0, x1, x2, x3, x4, x5⟩ := six_at hX5
      have z2 := fun j => frozen_of_row w5 _ j _ _ hX5
      clear hs hX5
      go_wp2_with fail
      have hR9 := set6 (b0 := .int .i64 k) (b1 := .bool y) (b2 := .int .i64 0) (b3 := .string ⟨#[]⟩) (b4 := .slice none 0 0) (b5 := .slice none 0 0) HX5.out
      have hS9 := set6_steps (w := w) ⟨HS5.out.1, but_trans HK4.out.1 HS5.out.2 (Nat.le_of_lt HK4.out.2)⟩ (Nat.le_refl _) lR (.int .i64 k) (.bool y) (.int .i64 0) (.string ⟨#[]⟩) (.slice none 0 0) (.slice none 0 0)
      generalize ((((((w5.setCell ⟨w.heap.size, 0, none⟩ (.int .i64 k)).setCell ⟨w.heap.size, 1, none⟩ (.bool y)).setCell ⟨w.heap.size, 2, none⟩ (.int .i64 0)).setCell ⟨w.heap.size, 3, none⟩ (.string ⟨#[]⟩)).setCell ⟨w.heap.size, 4, none⟩ (.slice none 0 0)).setCell ⟨w.heap.size, 5, none⟩ (.slice none 0 0)) = W9 at *
      have hbT := below_new W9 (.cells #[.int .i64 k, .bool y, .int .i64 0, .string ⟨#[]⟩, .slice none 0 0, .slice none 0 0] tJ)
      have lX9 := (Array.getElem?_eq_some_iff.1 hR9).1
      obtain ⟨v0, v1, v2, v3, v4, v5⟩ := six_at ((hbT.block _ lX9).trans hR9)
      have HEo := HE.out
      exact bodyPost_ret (v := .agg #[.int .i64 k, .bool y, .int .i64 0, .string ⟨#[]⟩, .slice none 0 0, .slice none 0 0]) (by simp [results, Tryz.results19, go_sem, v0, v1, v2, v3, v4, v5]) rfl
        (GotPost.ofEv (v := .mk k y 0 ByteArray.empty [] []) (q := q) (ev := .nilIface) (.inl ⟨rfl, HEo.symm⟩) ⟨_, rfl, JD_flat _ _ k 0 y ByteArray.empty⟩ ⟨hS9.1.below hbT, but_trans hS9.2 (but_below' hbT) hS9.2.size⟩)
    | none =>
      rw [ho] at hE HL
      have HE := Lib.hid hE
      clear hE ho
      go_enter Tryz.func19, Tryz.ntmps19
      go_wp2_with fail
      refine HF.out.mono ?_
      rintro e w9 ⟨rfl, hw⟩
      subst w9
      go_wp2_with fail
      refine HL.out.mono ?_
      rintro e w5 ⟨rfl, hs⟩
      unfold litV
      have hX5 := (hs.2.block w.heap.size HK4.out.2 (by omega)).trans HX4.out
      have lX5 := (Array.getElem?_eq_some_iff.1 hX5).1
      have hbT := below_new w5 (.cells #[.int .i64 0, .bool false, .int .i64 0, .string ⟨#[]⟩, .slice none 0 0, .slice none 0 0] tJ)
      have hzT : (w5.alloc (.cells #[.int .i64 0, .bool false, .int .i64 0, .string ⟨#[]⟩, .slice none 0 0, .slice none 0 0] tJ)).heap.size = w5.heap.size + 1 := by simp
      have HD := Lib.hid (digit_any a R l nest (w5.alloc (.cells #[.int .i64 0, .bool false, .int .i64 0, .string ⟨#[]⟩, .slice none 0 0, .slice none 0 0] tJ)) E HE.out (hs.1.below hbT) hl ((HW4.out.but hs.2 HW4.out.low hR).keep hbT) hR)
      have HX := Lib.hid ((hbT.block _ lX5).trans hX5)
      have HK := Lib.hid (show Lz.KeptBut w.heap.size R w (w5.alloc (.cells #[.int .i64 0, .bool false, .int .i64 0, .string ⟨#[]⟩, .slice none 0 0, .slice none 0 0] tJ)) ∧ w.heap.size < (w5.alloc (.cells #[.int .i64 0, .bool false, .int .i64 0, .string ⟨#[]⟩, .slice none 0 0, .slice none 0 0] tJ)).heap.size from ⟨(but_trans HK4.out.1 hs.2 (Nat.le_of_lt HK4.out.2)).trans (but_below' (hbT.mono (Nat.le_of_lt lX5))), by omega⟩)
      clear hs hX5 hbT hzT
      go_wp2_with fail
      refine HD.out.mono ?_
      intro e w2 hp
      obtain ⟨x, q, ev, hf, hs, hc⟩ := hp.ev
      obtain ⟨A8, c8, B8, d8, rfl, hJ⟩ := hf.six
      have hX2 := (hs.2.block w.heap.size HK.out.2 (by omega)).trans HX.out
      obtain ⟨x0, x1, x2, x3, x4, x5⟩ := six_at hX2
      have z2 := fun j => frozen_of_row w2 _ j _ _ hX2
      have lX2 := (Array.getElem?_eq_some_iff.1 hX2).1
      have HS2 := Lib.hid hs
      have HC2 := Lib.hid hc
      have HJ2 := Lib.hid hJ
      clear hp hf hs hc hJ hX2
      go_wp2_with fail
      obtain ⟨W9, hW9⟩ : ∃ W9, W9 = ((((((w2.setCell ⟨w.heap.size, 0, none⟩ (.int .i64 x.kind)).setCell ⟨w.heap.size, 1, none⟩ (.bool x.yes)).setCell ⟨w.heap.size, 2, none⟩ (.int .i64 x.n)).setCell ⟨w.heap.size, 3, none⟩ (.string x.s)).setCell ⟨w.heap.size, 4, none⟩ (.slice A8 x.keys.length c8)).setCell ⟨w.heap.size, 5, none⟩ (.slice B8 x.l.length d8)) := ⟨_, rfl⟩
      obtain ⟨g3, g4⟩ := six_end (a := a) (E := E) HK.out.1 HK.out.2 lR HX.out HS2.out HC2.out HJ2.out W9 hW9
      rw [← hW9]
      obtain ⟨v0, v1, v2, v3, v4, v5⟩ := six_at g3
      exact bodyPost_ret (v := .agg #[.int .i64 x.kind, .bool x.yes, .int .i64 x.n, .string x.s, .slice A8 x.keys.length c8, .slice B8 x.l.length d8]) (by simp [results, Tryz.results19, go_sem, v0, v1, v2, v3, v4, v5]) rfl g4
/-- A value's reading, however deep. -/
theorem val_at : ∀ d, d ≤ 64 → ValAt d := by
  intro d
  induction d with
  | zero => intro hd; exact value_any 0 hd (items_ok 0 hd (fun e h => by omega))
  | succ e ih => intro hd; exact value_any (e + 1) hd (items_ok (e + 1) hd (fun x h => by have e1 : x = e := (by omega); rw [e1]; exact ih (by omega)))
end Go.Proofs.YtamclieppbnpiabGreatDoor
