/-
  A list, an object: by the program.
-/
import Derived.Test.YtamclieppbnpiabGreatDoorProg
import Derived.Test.YtamclieppbnpiabGreatDoorReg
import Derived.WalkKit
import Derived.WalkSpells
import Derived.WalkLawsBesides
import Derived.Lib.Hide
import Derived.Lib.MinMax
import Derived.Deep.QuietTactic
import Derived.BigQuiet
import Derived.OwnWalk
import Derived.Deep.AppendLies
import Derived.KernelRfl
import Derived.Defers
import Derived.Deep.Cut
import Derived.Deep.CutRange
import Derived.Test.YtamclieppbnpiabGreatDoorJw21
set_option linter.unusedSimpArgs false
set_option linter.unusedVariables false
namespace Go.Proofs.YtamclieppbnpiabGreatDoor
open Go Go.RowKit Go.Maps
open Fz (HoldsS)

set_option maxHeartbeats 1000000 in
theorem less_any (sb R : Nat) (l : List UInt8) (nest : Int) (ev : Value) (u : FrameMode) (w : World) (hb : w.cell? ⟨sb, 0, none⟩ = some (.pointer (some ⟨R, 0, none⟩))) (h : RdAt w R l nest ev) (h0 : -1000 ≤ nest) (h1 : nest ≤ 1000) :
    CallsD Tryz.prog 77 #[.pointer (some ⟨sb, 0, none⟩)] u w fun e u' w' => u' = u ∧ (e = .returned (.tuple #[]) ∧ w' = w.setCell ⟨R, 1, none⟩ (.int .i64 (nest - 1))) := by
  have c1 := h.c1
  have z1 := h.z 1
  have lR := h.lt
  have e1 : wrap64 (nest - 1) = nest - 1 := by unfold wrap64; omega
  go_enter_d Tryz.func77, Tryz.ntmps77
  go_wp2_with fail
  go_end0
  exact ⟨rfl, rfl⟩
/-- A value's reading, so many lists deep. -/
def ValAt (d : Nat) : Prop := ∀ (a : Addr) (R : Nat) (l : List UInt8) (nest : Int) (w : World) (E : Got), valueL d l = E → nest = 64 - (d : Int) → RdAt w R l nest .nilIface → l.length ≤ 100000000 → WJ a w → 9 ≤ R →
  Calls Tryz.prog 19 #[.pointer (some ⟨R, 0, none⟩)] w fun e w' => GotPost a R nest E e w w'

theorem set6_other {W : World} {X k : Nat} (h : k ≠ X) (b0 b1 b2 b3 b4 b5 : Value) : ((((((W.setCell ⟨X, 0, none⟩ b0).setCell ⟨X, 1, none⟩ b1).setCell ⟨X, 2, none⟩ b2).setCell ⟨X, 3, none⟩ b3).setCell ⟨X, 4, none⟩ b4).setCell ⟨X, 5, none⟩ b5).heap[k]? = W.heap[k]? :=
  (heap_setCell_other _ _ _ _ h).trans ((heap_setCell_other _ _ _ _ h).trans ((heap_setCell_other _ _ _ _ h).trans ((heap_setCell_other _ _ _ _ h).trans ((heap_setCell_other _ _ _ _ h).trans (heap_setCell_other _ _ _ _ h)))))
theorem set6_size {W : World} {X : Nat} (b0 b1 b2 b3 b4 b5 : Value) : ((((((W.setCell ⟨X, 0, none⟩ b0).setCell ⟨X, 1, none⟩ b1).setCell ⟨X, 2, none⟩ b2).setCell ⟨X, 3, none⟩ b3).setCell ⟨X, 4, none⟩ b4).setCell ⟨X, 5, none⟩ b5).heap.size = W.heap.size := by simp [World.setCell]
/-- The way out. -/
theorem items_end {a : Addr} {w w4 : World} {R : Nat} {obj : Bool} {nest : Int} {ks lv : Value} {keys : List ByteArray} {acc : List Js} {q : List UInt8} {ev : Value} {E : Got} (hI : ItemsAt w w4 R (kindJ obj) (nest + 1) ks lv keys acc q ev) (hR : R < w.heap.size)
    (hE : (ev = .nilIface ∧ E = .ok (mkJ obj keys acc, q)) ∨ ∃ c, ev = errV a c ∧ E = .error c) (W9 : World)
    (hW9 : W9 = ((((((w4.setCell ⟨w.heap.size + 1, 0, none⟩ (.int .i64 (kindJ obj))).setCell ⟨w.heap.size + 1, 1, none⟩ (.bool false)).setCell ⟨w.heap.size + 1, 2, none⟩ (.int .i64 0)).setCell ⟨w.heap.size + 1, 3, none⟩ (.string ⟨#[]⟩)).setCell ⟨w.heap.size + 1, 4, none⟩ ks).setCell ⟨w.heap.size + 1, 5, none⟩ lv)) :
    W9.cell? ⟨w.heap.size, 0, none⟩ = some (.pointer (some ⟨R, 0, none⟩)) ∧ RdAt W9 R q (nest + 1) ev ∧
    (W9.setCell ⟨R, 1, none⟩ (.int .i64 (nest + 1 - 1))).heap[w.heap.size + 1]? = some (.cells #[.int .i64 (kindJ obj), .bool false, .int .i64 0, .string ⟨#[]⟩, ks, lv] tJ (0, 0)) ∧
    GotPost a R nest E (.returned (.agg #[.int .i64 (kindJ obj), .bool false, .int .i64 0, .string ⟨#[]⟩, ks, lv])) w (W9.setCell ⟨R, 1, none⟩ (.int .i64 (nest + 1 - 1))) := by
  have ho : ∀ k, k ≠ w.heap.size + 1 → W9.heap[k]? = w4.heap[k]? := fun k hk => by rw [hW9]; exact set6_other hk _ _ _ _ _ _
  have hs9 : W9.heap.size = w4.heap.size := by rw [hW9]; exact set6_size _ _ _ _ _ _
  have hF : W9.heap[w.heap.size + 1]? = some (.cells #[.int .i64 (kindJ obj), .bool false, .int .i64 0, .string ⟨#[]⟩, ks, lv] tJ (0, 0)) := by rw [hW9]; exact set6 hI.res
  have hb9 : Below (w.heap.size + 1) w4 W9 := by rw [hW9]; exact below6 (Below.refl _ _) (Nat.le_refl _) _ _ _ _ _ _
  have hR9 : RdAt W9 R q (nest + 1) ev := (ho R (by omega)).trans hI.rd
  have hB9 : W9.heap[w.heap.size]? = _ := (ho _ (by omega)).trans hI.box
  obtain ⟨D, hl, hD⟩ := hI.lown
  have hk9 : W9.ownsRow (w.heap.size + 3) sK 1 ks keys.length (strCells keys) := own_same hI.kown (fun g hg => ho g (by have := (hI.kown.lt g hg).1; omega))
  have hl9 : OwnsJ W9 (w.heap.size + 3) D lv acc := hl.stay (by omega) (fun b hb => ho b (by have := (hl.low b hb).1; omega)) (fun g hg => ho g (by have := (hl.block g hg).1; omega))
  have hK := Lz.KeptBut.setT W9.heap.size R 1 W9 (.int .i64 (nest + 1 - 1))
  have hz10 : (W9.setCell ⟨R, 1, none⟩ (.int .i64 (nest + 1 - 1))).heap.size = W9.heap.size := by simp [World.setCell]
  have hk10 := own_same hk9 (fun g hg => hK.block g (hk9.lt g hg).2 (by have := (hk9.lt g hg).1; omega))
  have hl10 := hl9.but hK (by omega)
  have hR10 : RdAt (W9.setCell ⟨R, 1, none⟩ (.int .i64 (nest + 1 - 1))) R q nest ev := by
    have := hR9.put1 (nest + 1 - 1)
    rwa [show nest + 1 - 1 = nest by omega] at this ⊢
  refine ⟨by simp [World.cell?, hB9], hR9, (heap_setCell_other _ _ _ _ (by show w.heap.size + 1 ≠ R; omega)).trans hF, GotPost.ofEv (v := mkJ obj keys acc) (q := q) (ev := ev) hE ⟨_, rfl, ?_⟩ ⟨hR10, ?_⟩⟩
  · exact (JD_mk (kind := kindJ obj) (n := 0) (yes := false) (s := ⟨#[]⟩) hk10 hl10).mono (fun b hb => ⟨by omega, hb.2⟩)
  · exact (hI.low.trans (but_below' (hb9.mono (by omega)))).trans (Lz.KeptBut.setT _ _ _ _ _)
theorem GotPost.ev {a : Addr} {R : Nat} {nest : Int} {E : Got} {e : Ending} {w w' : World} (h : GotPost a R nest E e w w') :
    ∃ x q ev, Fresh x w.heap.size e w' ∧ Steps w w' R q nest ev ∧ ((ev = .nilIface ∧ E = .ok (x, q)) ∨ ∃ c, ev = errV a c ∧ E = .error c) := by
  cases E with
  | ok p => exact ⟨p.1, p.2, .nilIface, h.1, h.2, .inl ⟨rfl, rfl⟩⟩
  | error c =>
    obtain ⟨v, q, h1, h2⟩ := h
    exact ⟨v, q, errV a c, h1, h2, .inr ⟨c, rfl, rfl⟩⟩
theorem Fresh.six {x : Js} {base : Nat} {e : Ending} {w' : World} (h : Fresh x base e w') : ∃ A c B d, e = .returned (.agg #[.int .i64 x.kind, .bool x.yes, .int .i64 x.n, .string x.s, .slice A x.keys.length c, .slice B x.l.length d]) ∧
    JD (fun b => base ≤ b ∧ b < w'.heap.size) w' x [.int .i64 x.kind, .bool x.yes, .int .i64 x.n, .string x.s, .slice A x.keys.length c, .slice B x.l.length d] := by
  obtain ⟨cs, rfl, hJ⟩ := h
  obtain ⟨A, c, B, d, hcs, -⟩ := JC_iff.1 hJ.jc
  rw [hcs] at hJ
  have : cs = #[.int .i64 x.kind, .bool x.yes, .int .i64 x.n, .string x.s, .slice A x.keys.length c, .slice B x.l.length d] := by
    rw [← hcs]
  exact ⟨A, c, B, d, by rw [this], hJ⟩
theorem ItemsAt.below {w wr w' : World} {R : Nat} {kind nest : Int} {ks lv : Value} {keys : List ByteArray} {acc : List Js} {l : List UInt8} {ev : Value} (h : ItemsAt w wr R kind nest ks lv keys acc l ev) (hb : Below wr.heap.size wr w') (hR : R < w.heap.size) : ItemsAt w w' R kind nest ks lv keys acc l ev :=
  h.but ⟨h.rd.below hb, but_below' hb⟩ hR
theorem then_end {obj : Bool} {l t : List UInt8} (h : takeP [endJ obj] (skipL l) = some t) : thenL obj l = .ok (true, t) := by
  unfold thenL
  rw [takeP_iff.1 h]
  simp
theorem then_more {obj : Bool} {l t : List UInt8} (h0 : takeP [endJ obj] (skipL l) = none) (h : takeP [44] (skipL l) = some t) : thenL obj l = .ok (false, t) := by
  unfold thenL
  rw [takeP_iff.1 h]
  have : (44 : UInt8) ≠ endJ obj := by cases obj <;> decide
  simp [this]
theorem then_none {obj : Bool} {l : List UInt8} (h0 : takeP [endJ obj] (skipL l) = none) (h : takeP [44] (skipL l) = none) : thenL obj l = .error 150 := by
  unfold thenL
  generalize skipL l = m at *
  cases m with
  | nil => rfl
  | cons c r =>
    have h1 : ¬ c = endJ obj := fun e => by subst e; simp [takeP] at h0
    have h2 : ¬ c = 44 := fun e => by subst e; simp [takeP] at h
    simp [h1, h2]
theorem calls_of_calm {P : Program} {f : FuncId} {fn : Func} {c : Code} {args : Array Value} {w : World} {R : Ending → World → Prop} (hf : P.funcs[f]? = some fn) (hb : fn.body = some c)
    (h : c.wp P (Calm (bodyPostD P fn R)) { tmps := args ++ Array.replicate (fn.ntmps - args.size) undef, defers := [] } w) : Calls P f args w R :=
  calls_of_wp_defers hf hb (wp_mono h fun e a w q => by cases e <;> first | exact q | exact q.elim)
theorem hmf_any : ∀ (fn : Fn) (first cap : Array Value) (w : World), (Instr.makeFunc fn first cap).run Tryz.prog w = .ok (.func fn first cap) w := fun _ _ _ _ => rfl
set_option maxRecDepth 100000 in
set_option maxHeartbeats 8000000 in
theorem items_any (d : Nat) (hd : d < 64) (HV : ValAt d) (a : Addr) (R : Nat) (obj : Bool) (c : UInt8) (r : List UInt8) (nest : Int) (w : World) (E : Got) (hE : itemsL (valueL d) obj r = E) (hn : nest = 64 - ((d : Int) + 1)) (h : RdAt w R (c :: r) nest .nilIface) (hl : r.length ≤ 100000000) (hW : WJ a w) (hR : 9 ≤ R) :
    Calls Tryz.prog 57 #[.pointer (some ⟨R, 0, none⟩), .int .i64 (kindJ obj), .string (bs [endJ obj])] w fun e w' => GotPost a R nest E e w w' := by
  have lR := h.lt
  have hk := @hmf_any
  have hb1 := below_new w (.cells #[.pointer (some ⟨R, 0, none⟩)] 47)
  have hb2 := below_new (w.alloc (.cells #[.pointer (some ⟨R, 0, none⟩)] 47)) (.cells #[.int .i64 0, .bool false, .int .i64 0, .string ⟨#[]⟩, .slice none 0 0, .slice none 0 0] tJ)
  have hb3 := below_new ((w.alloc (.cells #[.pointer (some ⟨R, 0, none⟩)] 47)).alloc (.cells #[.int .i64 0, .bool false, .int .i64 0, .string ⟨#[]⟩, .slice none 0 0, .slice none 0 0] tJ)) (.cells #[.int .i64 (kindJ obj), .bool false, .int .i64 0, .string ⟨#[]⟩, .slice none 0 0, .slice none 0 0] tJ)
  have hx1 := heap_alloc_new w (.cells #[.pointer (some ⟨R, 0, none⟩)] 47)
  have hx2 := heap_alloc_new (w.alloc (.cells #[.pointer (some ⟨R, 0, none⟩)] 47)) (.cells #[.int .i64 0, .bool false, .int .i64 0, .string ⟨#[]⟩, .slice none 0 0, .slice none 0 0] tJ)
  have hx3 := heap_alloc_new ((w.alloc (.cells #[.pointer (some ⟨R, 0, none⟩)] 47)).alloc (.cells #[.int .i64 0, .bool false, .int .i64 0, .string ⟨#[]⟩, .slice none 0 0, .slice none 0 0] tJ)) (.cells #[.int .i64 (kindJ obj), .bool false, .int .i64 0, .string ⟨#[]⟩, .slice none 0 0, .slice none 0 0] tJ)
  have hz1 : (w.alloc (.cells #[.pointer (some ⟨R, 0, none⟩)] 47)).heap.size = w.heap.size + 1 := by simp
  have hz2 : ((w.alloc (.cells #[.pointer (some ⟨R, 0, none⟩)] 47)).alloc (.cells #[.int .i64 0, .bool false, .int .i64 0, .string ⟨#[]⟩, .slice none 0 0, .slice none 0 0] tJ)).heap.size = w.heap.size + 2 := by simp
  have hz3 : (((w.alloc (.cells #[.pointer (some ⟨R, 0, none⟩)] 47)).alloc (.cells #[.int .i64 0, .bool false, .int .i64 0, .string ⟨#[]⟩, .slice none 0 0, .slice none 0 0] tJ)).alloc (.cells #[.int .i64 (kindJ obj), .bool false, .int .i64 0, .string ⟨#[]⟩, .slice none 0 0, .slice none 0 0] tJ)).heap.size = w.heap.size + 3 := by simp
  rw [hz1] at hb2 hx2
  rw [hz2] at hb3 hx3
  have hbV := (hb1.trans (hb2.mono (by omega))).trans (hb3.mono (by omega))
  have hXB := (hb3.block w.heap.size (by omega)).trans ((hb2.block w.heap.size (by omega)).trans hx1)
  have hXF := (hb3.block (w.heap.size + 1) (by omega)).trans hx2
  clear hb1 hb2 hb3 hx1 hx2 hz1 hz2
  refine calls_of_calm Tryz.func57 rfl ?_
  simp only [Tryz.ntmps57, List.size_toArray, List.length_cons, List.length_nil, Nat.reduceAdd, Nat.reduceSub, Array.replicate_succ, Array.replicate_zero, List.push_toArray, List.append_toArray, List.nil_append, List.cons_append]
  go_upto_region 2 with fail
  generalize ((w.alloc (.cells #[.pointer (some ⟨R, 0, none⟩)] 47)).alloc (.cells #[.int .i64 0, .bool false, .int .i64 0, .string ⟨#[]⟩, .slice none 0 0, .slice none 0 0] tJ)).alloc (.cells #[.int .i64 (kindJ obj), .bool false, .int .i64 0, .string ⟨#[]⟩, .slice none 0 0, .slice none 0 0] tJ) = V at *
  have hRV := h.below hbV
  have b0 : V.cell? ⟨w.heap.size, 0, none⟩ = some (.pointer (some ⟨R, 0, none⟩)) := by simp [World.cell?, hXB]
  have c1 := hRV.c1
  have z1 := hRV.z 1
  have lRV := hRV.lt
  have k0 : ¬ (64 : Int) ≤ nest := by omega
  have e1 : wrap64 (nest + 1) = nest + 1 := by unfold wrap64; omega
  have HN := Lib.hid hn
  clear hn
  have hR1 := hRV.put1 (nest + 1)
  have d0 := hR1.c0
  have y0 := hR1.z 0
  have lR1 := hR1.lt
  have b1 : (V.setCell ⟨R, 1, none⟩ (.int .i64 (nest + 1))).cell? ⟨w.heap.size, 0, none⟩ = some (.pointer (some ⟨R, 0, none⟩)) := (cell_same (f := none) (heap_setCell_other _ _ _ _ (by show w.heap.size ≠ R; omega))).trans b0
  have hsz : (bs (c :: r)).size = r.length + 1 := by rw [bs_size]; rfl
  have hex : (bs (c :: r)).extract 1 (r.length + 1) = bs r := bs_drop (c :: r) 1
  have k1 : (1 : Int) ≤ (r.length : Int) + 1 := by omega
  go_wp2_with fail
  refine wp_region_ordz (S := fun w' => w'.cell? ⟨w.heap.size, 0, none⟩ = some (.pointer (some ⟨R, 0, none⟩)) ∧ w'.cell? ⟨R, 0, none⟩ = some (.string (bs (c :: r)))) [0, 1, 2, 3, 4, 5, 6] [7, 8, 9, 10] 10 (by kernel_rfl) (by kernel_rfl) (fun _ _ _ _ _ h => h) ⟨b1, d0⟩ ?_
  simp only [pick, List.filterMap_cons, List.filterMap_nil, List.getElem?_toArray, List.getElem?_cons_zero, List.getElem?_cons_succ]
  repeat (refine wpHead_step (v := ?_) rfl ?_ ?_; rotate_left; (focus (rintro w1 ⟨f0, f1⟩; go_simp; try with_reducible rfl)); simp only [Act.put, List.setIfInBounds_toArray, List.set_cons_zero, List.set_cons_succ])
  refine wpHead_nil ?_
  refine wpTailZ_step rfl (fun K hK => ?_)
  go_wp2_with fail
  refine hK _ _ ⟨b1, d0⟩ ?_
  clear hK K
  try simp only [Act.put, List.setIfInBounds_toArray, List.set_cons_zero, List.set_cons_succ]
  refine wpTailZ_step rfl (fun K hK => ?_)
  go_wp2_with fail
  refine hK _ _ ⟨b1, d0⟩ ?_
  clear hK K
  try simp only [Act.put, List.setIfInBounds_toArray, List.set_cons_zero, List.set_cons_succ]
  refine wpTailZ_step rfl (fun K hK => ?_)
  go_wp2_with fail
  refine hK _ _ ⟨b1, d0⟩ ?_
  clear hK K
  try simp only [Act.put, List.setIfInBounds_toArray, List.set_cons_zero, List.set_cons_succ]
  refine wpTailZ_last rfl (fun K hK => ?_)
  go_upto_region 8 with fail
  have hI0 : ItemsAt w ((V.setCell ⟨R, 1, none⟩ (.int .i64 (nest + 1))).setCell ⟨R, 0, none⟩ (.string (bs r))).drew R (kindJ obj) (nest + 1) (.slice none 0 0) (.slice none 0 0) [] [] r .nilIface := by
    have hk : Lz.KeptBut V.heap.size R V ((V.setCell ⟨R, 1, none⟩ (.int .i64 (nest + 1))).setCell ⟨R, 0, none⟩ (.string (bs r))).drew := ((Lz.KeptBut.setT _ _ _ _ _).trans (Lz.KeptBut.setT _ _ _ _ _)).trans (but_below' ((Below.refl V.heap.size _).drew))
    exact ⟨(but_below' hbV).trans (but_mono hk hbV.size), RdAt.put0 hR1 r, (hk.block _ (by omega) (by omega)).trans hXB, (hk.block _ (by omega) (by omega)).trans hXF, (hk.block _ (by omega) (by omega)).trans hx3, World.ownsRow_nil _ _ _ _, _, OwnsJ.nil _ _, fun _ _ h => h⟩
  generalize ((V.setCell ⟨R, 1, none⟩ (.int .i64 (nest + 1))).setCell ⟨R, 0, none⟩ (.string (bs r))).drew = V2 at *
  have HI0 := Lib.hid hI0
  have HW := Lib.hid hW
  have HE := Lib.hid hE
  have HR := Lib.hid h
  clear hI0 hW hE h hbV hXB hXF hx3 hRV hR1 b0 c1 z1 lRV d0 y0 lR1 b1 hex hsz k1 hz3 k0 e1
  have b2 : V2.cell? ⟨w.heap.size, 0, none⟩ = some (.pointer (some ⟨R, 0, none⟩)) := by have := HI0.out.box; simp [World.cell?, this]
  have lR2 := HI0.out.rd.lt
  have HS0 := Lib.hid (skip_any R r (nest + 1) .nilIface V2 HI0.out.rd)
  go_wp2_with fail
  refine HS0.out.mono ?_
  rintro e w3 ⟨rfl, hs⟩
  have HI3 := Lib.hid (HI0.out.but hs lR)
  clear hs
  have b3 : w3.cell? ⟨w.heap.size, 0, none⟩ = some (.pointer (some ⟨R, 0, none⟩)) := by have := HI3.out.box; simp [World.cell?, this]
  have lR3 := HI3.out.rd.lt
  have HT0 := take_any R [endJ obj] (skipL r) (nest + 1) .nilIface w3 HI3.out.rd
  cases hq : takeP [endJ obj] (skipL r) with
  | some q =>
    rw [hq] at HT0
    have HT0 := Lib.hid HT0
    have HE2 : Hid (E = .ok (mkJ obj [] [], q)) := Lib.hid (by rw [← HE.out]; unfold itemsL; rw [hq])
    clear hq
    go_wp2_with fail
    refine HT0.out.mono ?_
    rintro e w4 ⟨rfl, hs⟩
    have HI4 := Lib.hid (HI3.out.but (l' := q) hs lR)
    clear hs
    obtain ⟨x0, x1, x2, x3, x4, x5⟩ := six_at HI4.out.val
    obtain ⟨y0, y1, y2, y3, y4, y5⟩ := six_at HI4.out.res
    have z2 := fun j => frozen_of_row w4 _ j _ _ HI4.out.res
    have lF := (Array.getElem?_eq_some_iff.1 HI4.out.res).1
    go_wp2_with fail
    obtain ⟨W9, hW9⟩ : ∃ W9, W9 = ((((((w4.setCell ⟨w.heap.size + 1, 0, none⟩ (.int .i64 (kindJ obj))).setCell ⟨w.heap.size + 1, 1, none⟩ (.bool false)).setCell ⟨w.heap.size + 1, 2, none⟩ (.int .i64 0)).setCell ⟨w.heap.size + 1, 3, none⟩ (.string ⟨#[]⟩)).setCell ⟨w.heap.size + 1, 4, none⟩ (.slice none 0 0)).setCell ⟨w.heap.size + 1, 5, none⟩ (.slice none 0 0)) := ⟨_, rfl⟩
    obtain ⟨g1, g2, g3, g4⟩ := items_end (a := a) (E := E) HI4.out lR (.inl ⟨rfl, HE2.out⟩) W9 hW9
    rw [← hW9]
    obtain ⟨v0, v1, v2, v3, v4, v5⟩ := six_at g3
    refine leaves_cons (f := 77) (args := #[.pointer (some ⟨w.heap.size, 0, none⟩)]) (by simp) (by simp [go_sem]) ?_
    refine (less_any w.heap.size R q (nest + 1) .nilIface _ W9 g1 g2 (by have := HN.out; omega) (by have := HN.out; omega)).mono ?_
    rintro e u' w'' ⟨rfl, rfl, rfl⟩
    generalize W9.setCell ⟨R, 1, none⟩ (.int .i64 (nest + 1 - 1)) = W10 at *
    exact ⟨.agg #[.int .i64 (kindJ obj), .bool false, .int .i64 0, .string ⟨#[]⟩, .slice none 0 0, .slice none 0 0], by simp [results, Tryz.results57, go_sem, v0, v1, v2, v3, v4, v5], g4⟩
  | none =>
    have HE2 : Hid (itemsGo (valueL d) obj (r.length + 1) [] [] (skipL r) = E) := Lib.hid (by rw [← HE.out]; unfold itemsL; rw [hq])
    have hT := HT0
    rw [hq] at hT
    have HT := Lib.hid hT
    have hskl := skip_len r
    clear hq hT HT0 HE
    go_wp2_with fail
    refine HT.out.mono ?_
    rintro e w4 ⟨rfl, hs⟩
    have HI4 := Lib.hid (show ItemsAt w w4 R (kindJ obj) (nest + 1) (.slice none 0 0) (.slice none 0 0) [] [] (skipL r) .nilIface from HI3.out.but hs lR)
    clear hs
    go_wp2_with fail
    go_loopw [] (fun wr => ∃ (ks lv : Value) (keys : List ByteArray) (acc : List Js) (l : List UInt8) (ev : Value), Hid (ItemsAt w wr R (kindJ obj) (nest + 1) ks lv keys acc l ev) ∧ keys.length ≤ r.length ∧ acc.length ≤ r.length ∧
      Hid ((ev = .nilIface ∧ keys.length + l.length ≤ r.length ∧ acc.length + l.length ≤ r.length ∧ ∃ m, l.length < m ∧ itemsGo (valueL d) obj m keys acc l = E) ∨ ∃ c, ev = errV a c ∧ E = .error c)) (fun wr => restR R wr)
    case atStart => exact ⟨_, _, [], [], skipL r, .nilIface, HI4, by simp, by simp, Lib.hid (.inl ⟨rfl, by simpa using hskl, by simpa using hskl, r.length + 1, by omega, HE2.out⟩)⟩
    case round =>
      obtain ⟨ks, lv, keys, acc, l, ev, HI, hkl, hal, HP⟩ := hrel
      obtain ⟨A5, c5, rfl, -, -, -⟩ := holdsS_own HI.out.kown
      obtain ⟨D5, hO5, -⟩ := HI.out.lown
      obtain ⟨B5, d5, rfl, -, -⟩ := hO5.holds
      clear hO5 D5
      have b5 : wr.cell? ⟨w.heap.size, 0, none⟩ = some (.pointer (some ⟨R, 0, none⟩)) := by have := HI.out.box; simp [World.cell?, this]
      have lR5 := HI.out.rd.lt
      have c25 := HI.out.rd.c2
      rcases HP.out with ⟨rfl, hl1, hl2, m, hm, hE⟩ | ⟨ec, rfl, hE⟩
      · have HW5 := Lib.hid (HW.out.but HI.out.low HW.out.low hR)
        have HS5 := Lib.hid (skip_any R l (nest + 1) .nilIface wr HI.out.rd)
        have HE5 := Lib.hid hE
        have HL1 := Lib.hid hl1
        have HL2 := Lib.hid hl2
        have HM5 := Lib.hid hm
        clear hE hl1 hl2 hm HP
        go_wp2_with fail
        refine HS5.out.mono ?_
        rintro e w6 ⟨rfl, hs⟩
        have HI6 := Lib.hid (HI.out.but hs lR)
        have HW6 := Lib.hid (HW5.out.but hs.2 HW5.out.low hR)
        clear hs
        have b6 : w6.cell? ⟨w.heap.size, 0, none⟩ = some (.pointer (some ⟨R, 0, none⟩)) := by have := HI6.out.box; simp [World.cell?, this]
        have c26 := HI6.out.rd.c2
        have lR6 := HI6.out.rd.lt
        go_upto_if 56 with fail
        go_cut [] from 55 to 58 (fun wx => ∃ (ks' : Value) (keys' : List ByteArray) (l' : List UInt8) (ev' : Value), ItemsAt w wx R (kindJ obj) (nest + 1) ks' (.slice B5 acc.length d5) keys' acc l' ev' ∧
          ((ev' = .nilIface ∧ keys'.length + l'.length ≤ r.length ∧ l'.length ≤ l.length ∧ entJ obj keys l = .ok (keys', l')) ∨ ∃ c', ev' = errV a c' ∧ entJ obj keys l = .error c'))
        case first =>
          cases obj with
          | false =>
            have k5 : kindJ false = 4 := rfl
            go_wp2_with fail
            go_meet
            exact ⟨.slice A5 keys.length c5, keys, skipL l, .nilIface, HI6.out, .inl ⟨rfl, by have := skip_len l; have := HL1.out; omega, skip_len l, rfl⟩⟩
          | true =>
            have k5 : kindJ true = 5 := rfl
            have HKy := Lib.hid (key_any a R (w.heap.size + 1 + 1) (w.heap.size + 3) (skipL l) (nest + 1) 5 (.slice A5 keys.length c5) (.slice B5 acc.length d5) keys w6 _ rfl HI6.out.rd HI6.out.val HI6.out.kown (by omega) (by have := HI6.out.low.size; have := (Array.getElem?_eq_some_iff.1 HI6.out.val).1; omega) (by omega) (by omega) (by have := HW.out.low; omega) (by have := skip_len l; have := HL1.out; omega) HW6.out hR)
            go_wp2_with fail
            refine HKy.out.mono ?_
            rintro e w7 ⟨rfl, ks', keys', q, ev', hr7, hX7, hk7, hat7, hb7, hcase⟩
            have HI7 := Lib.hid (HI6.out.key lR hr7 hX7 hk7 hat7 hb7)
            have HC7 := Lib.hid hcase
            clear hr7 hX7 hk7 hat7 hb7 hcase
            go_wp2_with fail
            go_meet
            refine ⟨ks', keys', q, ev', HI7.out, ?_⟩
            rcases HC7.out with ⟨rfl, k', rfl, hk'⟩ | ⟨c', rfl, hk'⟩
            · have hkl := keyL_len hk'
              have hsl := skip_len l
              refine .inl ⟨rfl, by have := HL1.out; simp; omega, by omega, ?_⟩
              unfold entJ
              simp only [if_true]
              rw [hk']
            · refine .inr ⟨c', rfl, ?_⟩
              unfold entJ
              simp only [if_true]
              rw [hk']
        case rest =>
        obtain ⟨ks', keys', l', ev', hI7, hc7⟩ := hcut
        obtain ⟨A7, c7, rfl, -, -, -⟩ := holdsS_own hI7.kown
        have HI7 := Lib.hid hI7
        have HW7 := Lib.hid (HW.out.but hI7.low HW.out.low hR)
        have b7 : wc.cell? ⟨w.heap.size, 0, none⟩ = some (.pointer (some ⟨R, 0, none⟩)) := by have := hI7.box; simp [World.cell?, this]
        have c27 := hI7.rd.c2
        have lR7 := hI7.rd.lt
        rcases hc7 with ⟨rfl, hl7, hl8, hc7⟩ | ⟨c', rfl, hc7⟩
        · have HC7 := Lib.hid hc7
          have HL7 := Lib.hid hl7
          have HL8 := Lib.hid hl8
          have lX7 := (Array.getElem?_eq_some_iff.1 hI7.val).1
          obtain ⟨-, -, -, -, -, x5⟩ := six_at hI7.val
          clear hI7 hl7 hl8 hc7
          have hdz : wc.drew.heap.size = wc.heap.size := rfl
          go_upto_if 63 with fail
          go_cut [] from 59 to 72 (fun wx => ∃ (lv' : Value) (q : List UInt8) (ev' : Value) (x : Js), ItemsAt w wx R (kindJ obj) (nest + 1) (.slice A7 keys'.length c7) lv' keys' (acc ++ [x]) q ev' ∧ ((ev' = .nilIface ∧ valueL d l' = .ok (x, q)) ∨ ∃ c', ev' = errV a c' ∧ valueL d l' = .error c'))
          case first =>
            go_wp2_with fail
            refine wp_region_push (S := fun w' => w'.cell? ⟨w.heap.size + 1 + 1, 5, none⟩ = some (.slice B5 acc.length d5) ∧ w'.cell? ⟨w.heap.size, 0, none⟩ = some (.pointer (some ⟨R, 0, none⟩))) [0, 1, 2, 4] 3 5 6 [7, 9] 8 10 (by kernel_rfl) (by kernel_rfl) (fun _ _ _ _ _ h => h) ⟨x5, b7⟩ ?_
            simp only [pick, List.filterMap_cons, List.filterMap_nil, List.getElem?_toArray, List.getElem?_cons_zero, List.getElem?_cons_succ]
            repeat (refine wpHead_step (v := ?_) rfl ?_ ?_; rotate_left; (focus (rintro w1 ⟨d0, d1⟩; go_simp; try with_reducible rfl)); simp only [Act.put, List.setIfInBounds_toArray, List.set_cons_zero, List.set_cons_succ])
            refine wpHead_nil ⟨?_, ?_⟩
            · refine wpTailK_step rfl (fun K hK => ?_)
              go_wp2_with fail
              refine (HV a R l' (nest + 1) wc.drew _ rfl (by have := HN.out; omega) (HI7.out.rd.below (below_drew wc)) (by have := HL8.out; have := HL1.out; omega) (HW7.out.keep (below_drew wc)) hR).mono ?_
              intro e w8 hp
              obtain ⟨x, q, ev', hf8, hs8, hc8⟩ := hp.ev
              obtain ⟨A8, c8, B8, d8, rfl, hJ8⟩ := hf8.six
              have HI8 := Lib.hid ((HI7.out.below (below_drew wc) lR).but hs8 lR)
              have HC8 := Lib.hid hc8
              have HJ8 := Lib.hid hJ8
              have x85 := (six_at HI8.out.val).2.2.2.2.2
              have b8 : w8.cell? ⟨w.heap.size, 0, none⟩ = some (.pointer (some ⟨R, 0, none⟩)) := by have := HI8.out.box; simp [World.cell?, this]
              have hz8 := HI8.out.low.size
              clear hp hf8 hs8 hc8 hJ8
              have hbW := below_new w8 (.cells #[.int .i64 0, .bool false, .int .i64 0, .string ⟨#[]⟩, .slice none 0 0, .slice none 0 0] tJ)
              have x86 := (hbW.cell (p := ⟨w.heap.size + 1 + 1, 5, none⟩) (cell_lt x85)).trans x85
              have b86 := (hbW.cell (p := ⟨w.heap.size, 0, none⟩) (cell_lt b8)).trans b8
              obtain ⟨g, c9, w9, hrun, hc9, hX9, ⟨ys, hys, hy⟩, hz9, hgl, hgX, hA, hB⟩ := ItemsAt.pushed (g0 := w8.heap.size) (HI8.out.below hbW lR) lR (by omega) (heap_alloc_new w8 _) (HJ8.out.stay (fun b hb => hbW.block b hb.2)) (fun b hb => ⟨by have := hb.1; omega, by have := hb.2; simp; omega⟩)
                (fun k hk hE => by obtain ⟨D, hO, -⟩ := HI7.out.lown; have := (hO.block k hk).2; have := hE.1; omega) (fun k hk hE => by have := (HI7.out.kown.lt k hk).2; have := hE.1; omega)
              refine hK _ _ ⟨x85, b8⟩ ?_
              clear hK K
              try simp only [Act.put, List.setIfInBounds_toArray, List.set_cons_zero, List.set_cons_succ]
              refine wpTailK_step rfl (fun K hK => ?_)
              go_wp2_with fail
              refine hK _ _ ⟨x86, b86⟩ ?_
              clear hK K
              try simp only [Act.put, List.setIfInBounds_toArray, List.set_cons_zero, List.set_cons_succ]
              obtain ⟨y0, y1, y2, y3, y4, y5, rfl⟩ : ∃ y0 y1 y2 y3 y4 y5, ys = [y0, y1, y2, y3, y4, y5] := by
                match ys, hys with
                | [y0, y1, y2, y3, y4, y5], _ => exact ⟨y0, y1, y2, y3, y4, y5, rfl⟩
              have q0 : w9.cell? ⟨g, acc.length * 6, none⟩ = some y0 := hy 0 y0 rfl
              have q1 : w9.cell? ⟨g, acc.length * 6 + 1, none⟩ = some y1 := hy 1 y1 rfl
              have q2 : w9.cell? ⟨g, acc.length * 6 + 2, none⟩ = some y2 := hy 2 y2 rfl
              have q3 : w9.cell? ⟨g, acc.length * 6 + 3, none⟩ = some y3 := hy 3 y3 rfl
              have q4 : w9.cell? ⟨g, acc.length * 6 + 4, none⟩ = some y4 := hy 4 y4 rfl
              have q5 : w9.cell? ⟨g, acc.length * 6 + 5, none⟩ = some y5 := hy 5 y5 rfl
              have x95 := (six_at hX9).2.2.2.2.2
              have zX9 := fun j => frozen_of_row w9 _ j _ _ hX9
              have lX9 := (Array.getElem?_eq_some_iff.1 hX9).1
              have HA := Lib.hid hA
              have HB := Lib.hid hB
              have i0 : (0 : Int) ≤ (acc.length : Int) := by omega
              have i1 : (acc.length : Int) < ((acc.length + 1 : Nat) : Int) := by omega
              have i2 : (acc.length : Int) < (acc.length : Int) + 1 := by omega
              clear hA hB hy hys hc9 hX9
              refine wpTailK_nil ?_
              unfold wpLasts
              simp only [pick, List.filterMap_cons, List.filterMap_nil, List.getElem?_toArray, List.getElem?_cons_zero, List.getElem?_cons_succ]
              refine wpTailK_step rfl (fun K hK => ?_)
              refine Lz.wp_append_run _ _ 23 23 rfl rfl rfl hrun ?_
              refine hK _ _ trivial ?_
              clear hK K hrun
              try simp only [Act.put, List.setIfInBounds_toArray, List.set_cons_zero, List.set_cons_succ]
              refine wpTailK_nil ?_
              repeat (refine wpHead_step (v := ?_) rfl ?_ ?_; rotate_left; (focus (rintro w1 _; go_simp; try with_reducible rfl)); simp only [Act.put, List.setIfInBounds_toArray, List.set_cons_zero, List.set_cons_succ])
              refine wpHead_nil ⟨?_, ?_⟩
              · refine wpTail_step rfl (fun K hK => ?_)
                go_wp2_with fail
                refine hK _ _ trivial ?_
                clear hK K
                try simp only [Act.put, List.setIfInBounds_toArray, List.set_cons_zero, List.set_cons_succ]
                refine wpTail_step rfl (fun K hK => ?_)
                go_wp2_with fail
                refine hK _ _ trivial ?_
                clear hK K
                try simp only [Act.put, List.setIfInBounds_toArray, List.set_cons_zero, List.set_cons_succ]
                refine wpTail_nil ?_
                go_wp2_with fail
                go_meet
                exact ⟨_, q, ev', x, HA.out, HC8.out⟩
              · refine wpTail_step rfl (fun K hK => ?_)
                go_wp2_with fail
                refine hK _ _ trivial ?_
                clear hK K
                try simp only [Act.put, List.setIfInBounds_toArray, List.set_cons_zero, List.set_cons_succ]
                refine wpTail_step rfl (fun K hK => ?_)
                go_wp2_with fail
                refine hK _ _ trivial ?_
                clear hK K
                try simp only [Act.put, List.setIfInBounds_toArray, List.set_cons_zero, List.set_cons_succ]
                refine wpTail_nil ?_
                go_wp2_with fail
                go_meet
                exact ⟨_, q, ev', x, HB.out, HC8.out⟩
            · have hbW := below_new wc.drew (.cells #[.int .i64 0, .bool false, .int .i64 0, .string ⟨#[]⟩, .slice none 0 0, .slice none 0 0] tJ)
              have hbC := (below_drew wc).trans (hbW.mono (Nat.le_refl _))
              have hzW : (wc.drew.alloc (.cells #[.int .i64 0, .bool false, .int .i64 0, .string ⟨#[]⟩, .slice none 0 0, .slice none 0 0] tJ)).heap.size = wc.heap.size + 1 := by simp
              have HI7W := HI7.out.below hbC lR
              have x76 := (hbC.cell (p := ⟨w.heap.size + 1 + 1, 5, none⟩) (cell_lt x5)).trans x5
              have b76 := (hbC.cell (p := ⟨w.heap.size, 0, none⟩) (cell_lt b7)).trans b7
              have hg0 := heap_alloc_new wc.drew (.cells #[.int .i64 0, .bool false, .int .i64 0, .string ⟨#[]⟩, .slice none 0 0, .slice none 0 0] tJ)
              have HVW := Lib.hid (HV a R l' (nest + 1) (wc.drew.alloc (.cells #[.int .i64 0, .bool false, .int .i64 0, .string ⟨#[]⟩, .slice none 0 0, .slice none 0 0] tJ)) _ rfl (by have := HN.out; omega) HI7W.rd (by have := HL8.out; have := HL1.out; omega) (HW7.out.keep hbC) hR)
              refine wpTailK_step rfl (fun K hK => ?_)
              go_wp2_with fail
              refine hK _ _ ⟨x76, b76⟩ ?_
              clear hK K
              try simp only [Act.put, List.setIfInBounds_toArray, List.set_cons_zero, List.set_cons_succ]
              refine wpTailK_step rfl (fun K hK => ?_)
              go_wp2_with fail
              refine HVW.out.mono ?_
              intro e w8 hp
              obtain ⟨x, q, ev', hf8, hs8, hc8⟩ := hp.ev
              obtain ⟨A8, c8, B8, d8, rfl, hJ8⟩ := hf8.six
              have HI8 := Lib.hid (HI7W.but hs8 lR)
              have HC8 := Lib.hid hc8
              have x85 := (six_at HI8.out.val).2.2.2.2.2
              have b8 : w8.cell? ⟨w.heap.size, 0, none⟩ = some (.pointer (some ⟨R, 0, none⟩)) := by have := HI8.out.box; simp [World.cell?, this]
              have hg8 := (hs8.2.block wc.drew.heap.size (by omega) (by omega)).trans hg0
              obtain ⟨g, c9, w9, hrun, hc9, hX9, ⟨ys, hys, hy⟩, hz9, hgl, hgX, hA, hB⟩ := ItemsAt.pushed (g0 := wc.drew.heap.size) HI8.out lR (by omega) hg8 hJ8 (fun b hb => ⟨by have := hb.1; omega, hb.2⟩)
                (fun k hk hE => by obtain ⟨D, hO, -⟩ := HI7.out.lown; have := (hO.block k hk).2; have := hE.1; omega) (fun k hk hE => by have := (HI7.out.kown.lt k hk).2; have := hE.1; omega)
              clear hp hf8 hs8 hc8 hJ8 hg8 hg0 HI7W
              refine hK _ _ ⟨x85, b8⟩ ?_
              clear hK K
              try simp only [Act.put, List.setIfInBounds_toArray, List.set_cons_zero, List.set_cons_succ]
              obtain ⟨y0, y1, y2, y3, y4, y5, rfl⟩ : ∃ y0 y1 y2 y3 y4 y5, ys = [y0, y1, y2, y3, y4, y5] := by
                match ys, hys with
                | [y0, y1, y2, y3, y4, y5], _ => exact ⟨y0, y1, y2, y3, y4, y5, rfl⟩
              have q0 : w9.cell? ⟨g, acc.length * 6, none⟩ = some y0 := hy 0 y0 rfl
              have q1 : w9.cell? ⟨g, acc.length * 6 + 1, none⟩ = some y1 := hy 1 y1 rfl
              have q2 : w9.cell? ⟨g, acc.length * 6 + 2, none⟩ = some y2 := hy 2 y2 rfl
              have q3 : w9.cell? ⟨g, acc.length * 6 + 3, none⟩ = some y3 := hy 3 y3 rfl
              have q4 : w9.cell? ⟨g, acc.length * 6 + 4, none⟩ = some y4 := hy 4 y4 rfl
              have q5 : w9.cell? ⟨g, acc.length * 6 + 5, none⟩ = some y5 := hy 5 y5 rfl
              have x95 := (six_at hX9).2.2.2.2.2
              have zX9 := fun j => frozen_of_row w9 _ j _ _ hX9
              have lX9 := (Array.getElem?_eq_some_iff.1 hX9).1
              have HA := Lib.hid hA
              have HB := Lib.hid hB
              have i0 : (0 : Int) ≤ (acc.length : Int) := by omega
              have i1 : (acc.length : Int) < ((acc.length + 1 : Nat) : Int) := by omega
              have i2 : (acc.length : Int) < (acc.length : Int) + 1 := by omega
              clear hA hB hy hys hc9 hX9
              refine wpTailK_nil ?_
              unfold wpLasts
              simp only [pick, List.filterMap_cons, List.filterMap_nil, List.getElem?_toArray, List.getElem?_cons_zero, List.getElem?_cons_succ]
              refine wpTailK_step rfl (fun K hK => ?_)
              refine Lz.wp_append_run _ _ 23 23 rfl rfl rfl hrun ?_
              refine hK _ _ trivial ?_
              clear hK K hrun
              try simp only [Act.put, List.setIfInBounds_toArray, List.set_cons_zero, List.set_cons_succ]
              refine wpTailK_nil ?_
              repeat (refine wpHead_step (v := ?_) rfl ?_ ?_; rotate_left; (focus (rintro w1 _; go_simp; try with_reducible rfl)); simp only [Act.put, List.setIfInBounds_toArray, List.set_cons_zero, List.set_cons_succ])
              refine wpHead_nil ⟨?_, ?_⟩
              · refine wpTail_step rfl (fun K hK => ?_)
                go_wp2_with fail
                refine hK _ _ trivial ?_
                clear hK K
                try simp only [Act.put, List.setIfInBounds_toArray, List.set_cons_zero, List.set_cons_succ]
                refine wpTail_step rfl (fun K hK => ?_)
                go_wp2_with fail
                refine hK _ _ trivial ?_
                clear hK K
                try simp only [Act.put, List.setIfInBounds_toArray, List.set_cons_zero, List.set_cons_succ]
                refine wpTail_nil ?_
                go_wp2_with fail
                go_meet
                exact ⟨_, q, ev', x, HA.out, HC8.out⟩
              · refine wpTail_step rfl (fun K hK => ?_)
                go_wp2_with fail
                refine hK _ _ trivial ?_
                clear hK K
                try simp only [Act.put, List.setIfInBounds_toArray, List.set_cons_zero, List.set_cons_succ]
                refine wpTail_step rfl (fun K hK => ?_)
                go_wp2_with fail
                refine hK _ _ trivial ?_
                clear hK K
                try simp only [Act.put, List.setIfInBounds_toArray, List.set_cons_zero, List.set_cons_succ]
                refine wpTail_nil ?_
                go_wp2_with fail
                go_meet
                exact ⟨_, q, ev', x, HB.out, HC8.out⟩
          case rest =>
            obtain ⟨lv', q, ev', x, hI8, hc8⟩ := hcut
            obtain ⟨D8, hO8, -⟩ := hI8.lown
            obtain ⟨B8, d8, rfl, -, -⟩ := hO8.holds
            clear hO8 D8
            rw [show (acc ++ [x]).length = acc.length + 1 by simp] at hI8
            have HI8 := Lib.hid hI8
            have b8 : wc.cell? ⟨w.heap.size, 0, none⟩ = some (.pointer (some ⟨R, 0, none⟩)) := by have := HI8.out.box; simp [World.cell?, this]
            have c28 := HI8.out.rd.c2
            have lR8 := HI8.out.rd.lt
            clear hI8
            rcases hc8 with ⟨rfl, hc8⟩ | ⟨c', rfl, hc8⟩
            · have HS8 := Lib.hid (skip_any R q (nest + 1) .nilIface wc HI8.out.rd)
              have hlq := (value_more d _ _ _ hc8).2.2.1
              have HLQ := Lib.hid hlq
              have HC8 := Lib.hid hc8
              clear hlq hc8
              go_wp2_with fail
              refine HS8.out.mono ?_
              rintro e w9 ⟨rfl, hs⟩
              have HI9 := Lib.hid (HI8.out.but hs lR)
              clear hs
              have b9 : w9.cell? ⟨w.heap.size, 0, none⟩ = some (.pointer (some ⟨R, 0, none⟩)) := by have := HI9.out.box; simp [World.cell?, this]
              have c29 := HI9.out.rd.c2
              have lR9 := HI9.out.rd.lt
              have hT9 := take_any R [endJ obj] (skipL q) (nest + 1) .nilIface w9 HI9.out.rd
              cases hq9 : takeP [endJ obj] (skipL q) with
              | some t =>
                rw [hq9] at hT9
                have HT9 := Lib.hid hT9
                have HE9 : Hid (E = .ok (mkJ obj keys' (acc ++ [x]), t)) := Lib.hid (by
                  rw [← HE5.out]
                  obtain ⟨m, rfl⟩ : ∃ m', m = m' + 1 := ⟨m - 1, by have := HM5.out; omega⟩
                  rw [itemsGo_succ, HC7.out]
                  simp only
                  rw [HC8.out]
                  simp only
                  rw [then_end hq9])
                clear hT9 hq9
                go_wp2_with fail
                refine HT9.out.mono ?_
                rintro e w10 ⟨rfl, hs⟩
                have HI10 := Lib.hid (show ItemsAt w w10 R (kindJ obj) (nest + 1) (.slice A7 keys'.length c7) (.slice B8 (acc.length + 1) d8) keys' (acc ++ [x]) t .nilIface from HI9.out.but hs lR)
                clear hs
                obtain ⟨x0, x1, x2, x3, x4, x5⟩ := six_at HI10.out.val
                obtain ⟨y0, y1, y2, y3, y4, y5⟩ := six_at HI10.out.res
                have z2 := fun j => frozen_of_row w10 _ j _ _ HI10.out.res
                have lF := (Array.getElem?_eq_some_iff.1 HI10.out.res).1
                go_wp2_with fail
                obtain ⟨W9, hW9⟩ : ∃ W9, W9 = ((((((World.setCell w10 ⟨w.heap.size + 1, 0, none⟩ (.int .i64 (kindJ obj))).setCell ⟨w.heap.size + 1, 1, none⟩ (.bool false)).setCell ⟨w.heap.size + 1, 2, none⟩ (.int .i64 0)).setCell ⟨w.heap.size + 1, 3, none⟩ (.string ⟨#[]⟩)).setCell ⟨w.heap.size + 1, 4, none⟩ (.slice A7 keys'.length c7)).setCell ⟨w.heap.size + 1, 5, none⟩ (.slice B8 (acc.length + 1) d8)) := ⟨_, rfl⟩
                obtain ⟨g1, g2, g3, g4⟩ := items_end (a := a) (E := E) HI10.out lR (.inl ⟨rfl, HE9.out⟩) W9 hW9
                rw [← hW9]
                obtain ⟨v0, v1, v2, v3, v4, v5⟩ := six_at g3
                refine leaves_cons (f := 77) (args := #[.pointer (some ⟨w.heap.size, 0, none⟩)]) (by simp) (by simp [go_sem]) ?_
                refine (less_any w.heap.size R _ (nest + 1) _ _ W9 g1 g2 (by have := HN.out; omega) (by have := HN.out; omega)).mono ?_
                rintro e u' w'' ⟨rfl, rfl, rfl⟩
                generalize W9.setCell ⟨R, 1, none⟩ (.int .i64 (nest + 1 - 1)) = W10 at *
                exact ⟨.agg #[.int .i64 (kindJ obj), .bool false, .int .i64 0, .string ⟨#[]⟩, (.slice A7 keys'.length c7), (.slice B8 (acc.length + 1) d8)], by simp [results, Tryz.results57, go_sem, v0, v1, v2, v3, v4, v5], g4⟩
              | none =>
                rw [hq9] at hT9
                have HT9 := Lib.hid hT9
                have HQ9 := Lib.hid hq9
                clear hT9 hq9
                go_wp2_with fail
                refine HT9.out.mono ?_
                rintro e w10 ⟨rfl, hs⟩
                have HI10 := Lib.hid (show ItemsAt w w10 R (kindJ obj) (nest + 1) (.slice A7 keys'.length c7) (.slice B8 (acc.length + 1) d8) keys' (acc ++ [x]) (skipL q) .nilIface from HI9.out.but hs lR)
                clear hs
                have b10 : w10.cell? ⟨w.heap.size, 0, none⟩ = some (.pointer (some ⟨R, 0, none⟩)) := by have := HI10.out.box; simp [World.cell?, this]
                have c210 := HI10.out.rd.c2
                have lR10 := HI10.out.rd.lt
                have hT10 := take_any R [44] (skipL q) (nest + 1) .nilIface w10 HI10.out.rd
                cases hq10 : takeP [44] (skipL q) with
                | some t =>
                  rw [hq10] at hT10
                  have HT10 := Lib.hid hT10
                  have htl := takeP_len hq10
                  have hsl := skip_len q
                  have HE9 : Hid (∃ m', l.length < m' + 1 ∧ itemsGo (valueL d) obj m' keys' (acc ++ [x]) t = E) := Lib.hid (by
                    obtain ⟨m', rfl⟩ : ∃ m', m = m' + 1 := ⟨m - 1, by have := HM5.out; omega⟩
                    refine ⟨m', HM5.out, ?_⟩
                    rw [← HE5.out, itemsGo_succ, HC7.out]
                    simp only
                    rw [HC8.out]
                    simp only
                    rw [then_more HQ9.out hq10])
                  have HTL := Lib.hid (show t.length + 1 ≤ q.length by simp at htl; omega)
                  clear hT10 hq10 htl hsl
                  go_wp2_with fail
                  refine HT10.out.mono ?_
                  rintro e w11 ⟨rfl, hs⟩
                  have HI11 := Lib.hid (show ItemsAt w w11 R (kindJ obj) (nest + 1) (.slice A7 keys'.length c7) (.slice B8 (acc.length + 1) d8) keys' (acc ++ [x]) t .nilIface from HI10.out.but hs lR)
                  clear hs
                  go_wp2_with fail
                  go_roundw
                  case rel =>
                    obtain ⟨m', hm', he'⟩ := HE9.out
                    have h1 := HL7.out
                    have h2 := HL8.out
                    have h3 := HL2.out
                    have h4 := HLQ.out
                    have h5 := HTL.out
                    exact ⟨_, _, _, _, t, .nilIface, HI11, by omega, by simp; omega, Lib.hid (.inl ⟨rfl, by omega, by simp; omega, m', by omega, he'⟩)⟩
                  case measure =>
                    rw [restR_nil HI11.out.rd, restR_nil HI.out.rd]
                    have h2 := HL8.out
                    have h4 := HLQ.out
                    have h5 := HTL.out
                    omega
                | none =>
                  rw [hq10] at hT10
                  have HT10 := Lib.hid hT10
                  have HE9 : Hid (E = .error 150) := Lib.hid (by
                    obtain ⟨m', rfl⟩ : ∃ m', m = m' + 1 := ⟨m - 1, by have := HM5.out; omega⟩
                    rw [← HE5.out, itemsGo_succ, HC7.out]
                    simp only
                    rw [HC8.out]
                    simp only
                    rw [then_none HQ9.out hq10])
                  clear hT10 hq10
                  go_wp2_with fail
                  refine HT10.out.mono ?_
                  rintro e w11 ⟨rfl, hs⟩
                  have HI11 := Lib.hid (show ItemsAt w w11 R (kindJ obj) (nest + 1) (.slice A7 keys'.length c7) (.slice B8 (acc.length + 1) d8) keys' (acc ++ [x]) (skipL q) .nilIface from HI10.out.but hs lR)
                  clear hs
                  have b11 : w11.cell? ⟨w.heap.size, 0, none⟩ = some (.pointer (some ⟨R, 0, none⟩)) := by have := HI11.out.box; simp [World.cell?, this]
                  have HF11 := Lib.hid (fail_any a R 150 (skipL q) (nest + 1) .nilIface w11 HI11.out.rd (.nil a) (HW.out.but HI11.out.low HW.out.low hR))
                  go_wp2_with fail
                  refine HF11.out.mono ?_
                  rintro e w12 ⟨rfl, hs⟩
                  have HI12 := Lib.hid (show ItemsAt w w12 R (kindJ obj) (nest + 1) (.slice A7 keys'.length c7) (.slice B8 (acc.length + 1) d8) keys' (acc ++ [x]) (skipL q) (errV a 150) from HI11.out.but hs lR)
                  clear hs
                  go_wp2_with fail
                  go_roundw
                  case rel =>
                    have h1 := HL7.out
                    have h2 := HL8.out
                    have h3 := HL2.out
                    have h4 := HLQ.out
                    exact ⟨_, _, _, _, skipL q, errV a 150, HI12, by omega, by simp; omega, Lib.hid (.inr ⟨150, rfl, HE9.out⟩)⟩
                  case measure =>
                    rw [restR_err HI12.out.rd, restR_nil HI.out.rd]
                    omega
            · have HE8 : Hid (E = .error c') := Lib.hid (by
                rw [← HE5.out]
                obtain ⟨m, rfl⟩ : ∃ m', m = m' + 1 := ⟨m - 1, by have := HM5.out; omega⟩
                rw [itemsGo_succ, HC7.out]
                simp only
                rw [hc8])
              have HS8 := Lib.hid (skip_any R q (nest + 1) (errV a c') wc HI8.out.rd)
              unfold errV at c28
              clear hc8
              go_wp2_with fail
              refine HS8.out.mono ?_
              rintro e w9 ⟨rfl, hs⟩
              have HI9 := Lib.hid (HI8.out.but hs lR)
              clear hs
              have b9 : w9.cell? ⟨w.heap.size, 0, none⟩ = some (.pointer (some ⟨R, 0, none⟩)) := by have := HI9.out.box; simp [World.cell?, this]
              have c29 := HI9.out.rd.c2
              have lR9 := HI9.out.rd.lt
              unfold errV at c29
              obtain ⟨x0, x1, x2, x3, x4, x5⟩ := six_at HI9.out.val
              obtain ⟨y0, y1, y2, y3, y4, y5⟩ := six_at HI9.out.res
              have z2 := fun j => frozen_of_row w9 _ j _ _ HI9.out.res
              have lF := (Array.getElem?_eq_some_iff.1 HI9.out.res).1
              go_wp2_with fail
              obtain ⟨W9, hW9⟩ : ∃ W9, W9 = ((((((World.setCell w9 ⟨w.heap.size + 1, 0, none⟩ (.int .i64 (kindJ obj))).setCell ⟨w.heap.size + 1, 1, none⟩ (.bool false)).setCell ⟨w.heap.size + 1, 2, none⟩ (.int .i64 0)).setCell ⟨w.heap.size + 1, 3, none⟩ (.string ⟨#[]⟩)).setCell ⟨w.heap.size + 1, 4, none⟩ (.slice A7 keys'.length c7)).setCell ⟨w.heap.size + 1, 5, none⟩ (.slice B8 (acc.length + 1) d8)) := ⟨_, rfl⟩
              obtain ⟨g1, g2, g3, g4⟩ := items_end (a := a) (E := E) HI9.out lR (.inr ⟨_, rfl, HE8.out⟩) W9 hW9
              rw [← hW9]
              obtain ⟨v0, v1, v2, v3, v4, v5⟩ := six_at g3
              refine leaves_cons (f := 77) (args := #[.pointer (some ⟨w.heap.size, 0, none⟩)]) (by simp) (by simp [go_sem]) ?_
              refine (less_any w.heap.size R _ (nest + 1) _ _ W9 g1 g2 (by have := HN.out; omega) (by have := HN.out; omega)).mono ?_
              rintro e u' w'' ⟨rfl, rfl, rfl⟩
              generalize W9.setCell ⟨R, 1, none⟩ (.int .i64 (nest + 1 - 1)) = W10 at *
              exact ⟨.agg #[.int .i64 (kindJ obj), .bool false, .int .i64 0, .string ⟨#[]⟩, (.slice A7 keys'.length c7), (.slice B8 (acc.length + 1) d8)], by simp [results, Tryz.results57, go_sem, v0, v1, v2, v3, v4, v5], g4⟩
        · have HE7 : Hid (E = .error c') := Lib.hid (by
            rw [← HE5.out]
            obtain ⟨m, rfl⟩ : ∃ m', m = m' + 1 := ⟨m - 1, by have := HM5.out; omega⟩
            rw [itemsGo_succ, hc7])
          unfold errV at c27
          have HS7 := Lib.hid (skip_any R l' (nest + 1) (errV a c') wc HI7.out.rd)
          clear hI7 hc7
          go_wp2_with fail
          refine HS7.out.mono ?_
          rintro e w8 ⟨rfl, hs⟩
          have HI8 := Lib.hid (HI7.out.but hs lR)
          clear hs
          have b8 : w8.cell? ⟨w.heap.size, 0, none⟩ = some (.pointer (some ⟨R, 0, none⟩)) := by have := HI8.out.box; simp [World.cell?, this]
          have c28 := HI8.out.rd.c2
          have lR8 := HI8.out.rd.lt
          unfold errV at c28
          obtain ⟨x0, x1, x2, x3, x4, x5⟩ := six_at HI8.out.val
          obtain ⟨y0, y1, y2, y3, y4, y5⟩ := six_at HI8.out.res
          have z2 := fun j => frozen_of_row w8 _ j _ _ HI8.out.res
          have lF := (Array.getElem?_eq_some_iff.1 HI8.out.res).1
          go_wp2_with fail
          obtain ⟨W9, hW9⟩ : ∃ W9, W9 = ((((((World.setCell w8 ⟨w.heap.size + 1, 0, none⟩ (.int .i64 (kindJ obj))).setCell ⟨w.heap.size + 1, 1, none⟩ (.bool false)).setCell ⟨w.heap.size + 1, 2, none⟩ (.int .i64 0)).setCell ⟨w.heap.size + 1, 3, none⟩ (.string ⟨#[]⟩)).setCell ⟨w.heap.size + 1, 4, none⟩ (.slice A7 keys'.length c7)).setCell ⟨w.heap.size + 1, 5, none⟩ (.slice B5 acc.length d5)) := ⟨_, rfl⟩
          obtain ⟨g1, g2, g3, g4⟩ := items_end (a := a) (E := E) HI8.out lR (.inr ⟨_, rfl, HE7.out⟩) W9 hW9
          rw [← hW9]
          obtain ⟨v0, v1, v2, v3, v4, v5⟩ := six_at g3
          refine leaves_cons (f := 77) (args := #[.pointer (some ⟨w.heap.size, 0, none⟩)]) (by simp) (by simp [go_sem]) ?_
          refine (less_any w.heap.size R _ (nest + 1) _ _ W9 g1 g2 (by have := HN.out; omega) (by have := HN.out; omega)).mono ?_
          rintro e u' w'' ⟨rfl, rfl, rfl⟩
          generalize W9.setCell ⟨R, 1, none⟩ (.int .i64 (nest + 1 - 1)) = W10 at *
          exact ⟨.agg #[.int .i64 (kindJ obj), .bool false, .int .i64 0, .string ⟨#[]⟩, (.slice A7 keys'.length c7), (.slice B5 acc.length d5)], by simp [results, Tryz.results57, go_sem, v0, v1, v2, v3, v4, v5], g4⟩
      · have HE5 := Lib.hid hE
        unfold errV at c25
        clear hE HP
        obtain ⟨x0, x1, x2, x3, x4, x5⟩ := six_at HI.out.val
        obtain ⟨y0, y1, y2, y3, y4, y5⟩ := six_at HI.out.res
        have z2 := fun j => frozen_of_row wr _ j _ _ HI.out.res
        have lF := (Array.getElem?_eq_some_iff.1 HI.out.res).1
        go_wp2_with fail
        obtain ⟨W9, hW9⟩ : ∃ W9, W9 = ((((((World.setCell wr ⟨w.heap.size + 1, 0, none⟩ (.int .i64 (kindJ obj))).setCell ⟨w.heap.size + 1, 1, none⟩ (.bool false)).setCell ⟨w.heap.size + 1, 2, none⟩ (.int .i64 0)).setCell ⟨w.heap.size + 1, 3, none⟩ (.string ⟨#[]⟩)).setCell ⟨w.heap.size + 1, 4, none⟩ (.slice A5 keys.length c5)).setCell ⟨w.heap.size + 1, 5, none⟩ (.slice B5 acc.length d5)) := ⟨_, rfl⟩
        obtain ⟨g1, g2, g3, g4⟩ := items_end (a := a) (E := E) HI.out lR (.inr ⟨_, rfl, HE5.out⟩) W9 hW9
        rw [← hW9]
        obtain ⟨v0, v1, v2, v3, v4, v5⟩ := six_at g3
        refine leaves_cons (f := 77) (args := #[.pointer (some ⟨w.heap.size, 0, none⟩)]) (by simp) (by simp [go_sem]) ?_
        refine (less_any w.heap.size R _ (nest + 1) _ _ W9 g1 g2 (by have := HN.out; omega) (by have := HN.out; omega)).mono ?_
        rintro e u' w'' ⟨rfl, rfl, rfl⟩
        generalize W9.setCell ⟨R, 1, none⟩ (.int .i64 (nest + 1 - 1)) = W10 at *
        exact ⟨.agg #[.int .i64 (kindJ obj), .bool false, .int .i64 0, .string ⟨#[]⟩, (.slice A5 keys.length c5), (.slice B5 acc.length d5)], by simp [results, Tryz.results57, go_sem, v0, v1, v2, v3, v4, v5], g4⟩

end Go.Proofs.YtamclieppbnpiabGreatDoor
