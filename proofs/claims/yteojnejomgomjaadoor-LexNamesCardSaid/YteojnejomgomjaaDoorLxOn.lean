/-
  The table of glyphs is filled once: sync.Once's roads; the parts of the slow one are the kit's own walks of a lazy value, turned to this program.
-/
import Derived.Test.YteojnejomgomjaaDoorProg
import Derived.Test.YteojnejomgomjaaDoorReg
import Derived.WalkKit
import Derived.WalkSpells
import Derived.WalkLawsBesides
import Derived.Lib.Hide
import Derived.Lib.MinMax
import Derived.Deep.QuietTactic
import Derived.BigQuiet
import Derived.OwnWalk
import Derived.Deep.AppendLies
import Derived.KernelRfl
import Derived.Tactics
import Derived.Tactics2
import Derived.Defers
import Derived.Laws.Pointers
import Derived.Laws.LoneSync
import Derived.RegionTactic
import Derived.RegionCalls
import Derived.ChangeAlike
import Derived.Test.YteojnejomgomjaaDoorLxFi
set_option linter.unusedSimpArgs false
set_option linter.unusedVariables false
namespace Go.Proofs.YteojnejomgomjaaDoor
open Go.RowKit Go.Maps

theorem once_disable (w : World) : (callFunc 82 #[]).run Tryd.prog w = .ok (.value (.tuple #[])) w := run_call_mark0 Tryd.func82 (by kernel_rfl) (by kernel_rfl) (by kernel_rfl) .disable (by kernel_rfl) w
theorem once_enable (w : World) : (callFunc 84 #[]).run Tryd.prog w = .ok (.value (.tuple #[])) w := run_call_mark0 Tryd.func84 (by kernel_rfl) (by kernel_rfl) (by kernel_rfl) .enable (by kernel_rfl) w
theorem once_acquire (a : Addr) (w : World) : (callFunc 85 #[.pointer (some a)]).run Tryd.prog w = .ok (.value (.tuple #[])) w := run_call_marked Tryd.func85 (by kernel_rfl) (by kernel_rfl) (by kernel_rfl) .acquire (by kernel_rfl) a w
theorem once_release (a : Addr) (w : World) : (callFunc 87 #[.pointer (some a)]).run Tryd.prog w = .ok (.value (.tuple #[])) w := run_call_marked Tryd.func87 (by kernel_rfl) (by kernel_rfl) (by kernel_rfl) .releaseMerge (by kernel_rfl) a w

set_option maxRecDepth 100000 in
theorem once_store (a : Addr) (x : Value) (u : FrameMode) (w : World) (hc : w.cell? a = some x) (hz : w.frozen? a = false) :
    CallsD Tryd.prog 75 #[.pointer (some a), .bool true] u w fun e u' w' => u' = u ∧ (e = .returned (.tuple #[]) ∧ w' = w.drew.setCell a (.int .u32 1)) := by
  have hc' : w.drew.cell? a = some x := by go_simp
  have hz' : w.drew.frozen? a = false := by go_simp
  have hst := run_call_store (P := Tryd.prog) Tryd.func79 (by kernel_rfl) (by kernel_rfl) (by kernel_rfl) (by kernel_rfl) (k := .u32) (y := 1) hc' hz'
  go_enter_d Tryd.func75, Tryd.ntmps75
  go_wp2
  go_region_calls
  all_goals (go_end0; exact ⟨rfl, rfl⟩)

set_option maxRecDepth 100000 in
theorem once_unlock (a : Addr) (u : FrameMode) (w : World) (hc : w.cell? a = some (.int .i32 1)) (hz : w.frozen? a = false) :
    CallsD Tryd.prog 74 #[.pointer (some a)] u w fun e u' w' => u' = u ∧ (e = .returned (.tuple #[]) ∧ w' = w.setCell a (.int .i32 0)) := by
  have hd := once_disable
  have he := once_enable
  have hr := once_release
  have hadd := run_call_add (P := Tryd.prog) Tryd.func88 (by kernel_rfl) (by kernel_rfl) (by kernel_rfl) .i32 (by kernel_rfl) (y := -1) (s := 0) hc hz (by simp [go_sem]; rfl)
  have hcv := run_convert_to_unsafe (P := Tryd.prog) (src := 135) (dst := 104) Tryd.underlying135 Tryd.underlying104 (by kernel_rfl) hc
  go_enter_d Tryd.func74, Tryd.ntmps74
  go_wp2
  go_end0
  go_wp2
  go_end0
  exact ⟨rfl, rfl⟩

set_option maxRecDepth 100000 in
theorem once_lock (a : Addr) (w : World) (hc : w.cell? a = some (.int .i32 0)) (hz : w.frozen? a = false) :
    Calls Tryd.prog 73 #[.pointer (some a)] w fun e w' => e = .returned (.tuple #[]) ∧ w' = w.setCell a (.int .i32 1) := by
  have hd := once_disable
  have he := once_enable
  have ha := once_acquire
  have hcas := run_call_cas_hit (P := Tryd.prog) Tryd.func83 (by kernel_rfl) (by kernel_rfl) (by kernel_rfl) .i32 (by kernel_rfl) (y := 1) hc hz
  have hc' : (w.setCell a (.int .i32 1)).cell? a = some (.int .i32 1) := World.cell?_setCell_same w a _ hc
  have hcv := run_convert_to_unsafe (P := Tryd.prog) (src := 135) (dst := 104) Tryd.underlying135 Tryd.underlying104 (by kernel_rfl) hc'
  go_enter Tryd.func73, Tryd.ntmps73
  go_wp2
  first | go_end0 | (simp only [Exit.inBlock, Exit.then]; refine bodyPost_ret (results_none rfl _ _ _) rfl ?_) | refine bodyPost_ret (results_none rfl _ _ _) rfl ?_
  go_wp2
  go_end0
  exact ⟨rfl, rfl⟩

/-- A table that nothing has been laid into. -/
def NewTab (w : World) (T : Nat) : Prop := w.heap[T]? = some (.cells #[.int .u32 0, .int .i32 0, .int .u32 0, .slice none 0 0, .map none] tT (0, 0))
/-- A table that has been filled. -/
def FullTab (w0 : World) (base T : Nat) (W : World) : Prop := ∃ M, Tab w0 base T [.int .u32 1, .int .i32 0, .int .u32 0] M glyphs W

theorem Tab.set {w0 W : World} {base T : Nat} {x y z : Value} {M : Nat} {L : List Gly} (t : Tab w0 base T [x, y, z] M L W) (hT : T < base) (o : Nat) (v : Value) (ho : o < 3) : Tab w0 base T ([x, y, z].set o v) M L (W.setCell ⟨T, o, none⟩ v) := by
  obtain ⟨lv, h1, h2, h3⟩ := t
  have hM := h1.low
  have hrow := h1.row
  refine ⟨lv, ⟨?_, h1.l.kept (grown_setCell W ⟨T, o, none⟩ v) (Or.inr (fun e => own_apart_cells h1.l hrow (by decide) e)), h1.by_.kept (grown_setCell W ⟨T, o, none⟩ v) (by simp; omega), h1.low⟩, h2.trans (KeptBut.setT _ _ _ _ _), by simpa using h3⟩
  rw [heap_setCell_same W T o _ _ _ hrow]
  match o, ho with
  | 0, _ => rfl
  | 1, _ => rfl
  | 2, _ => rfl
theorem Tab.get {w0 W : World} {base T : Nat} {h : List Value} {M : Nat} {L : List Gly} (t : Tab w0 base T h M L W) (o : Nat) {v : Value} (hv : h[o]? = some v) : W.cell? ⟨T, o, none⟩ = some v ∧ W.frozen? ⟨T, o, none⟩ = false := by
  obtain ⟨lv, h1, h2, h3⟩ := t
  have hrow := h1.row
  have hl : o < h.length := (List.getElem?_eq_some_iff.1 hv).1
  refine ⟨?_, frozen_of_row W _ o _ _ hrow⟩
  simp only [World.cell?, hrow]
  simp [List.getElem?_append_left hl, hv]

theorem once_load (a : Addr) (d : Int) (b : Bool) (hb : (d != 0) = b) (w : World) (h0 : w.cell? a = some (.int .u32 d)) :
    Calls Tryd.prog 66 #[.pointer (some a)] w fun e w' => e = .returned (.bool b) ∧ w' = w := by
  have hl := run_call_load (P := Tryd.prog) Tryd.func72 (by kernel_rfl) (by kernel_rfl) (by kernel_rfl) .u32 (by kernel_rfl) h0
  go_enter Tryd.func66, Tryd.ntmps66
  go_wp2
  go_ret
  exact ⟨by rw [← hb]; rfl, rfl⟩

set_option maxRecDepth 100000 in
set_option maxHeartbeats 4000000 in
theorem once_slow (T p : Nat) (w : World) (hp : w.cell? ⟨p, 0, none⟩ = some (.pointer (some ⟨T, 0, none⟩))) (hN : NewTab w T) (hpT : p ≠ T) :
    Calls Tryd.prog 67 #[.pointer (some ⟨T, 0, none⟩), .func (.func 61) #[] #[.pointer (some ⟨p, 0, none⟩)]] w fun e w' => e = .returned (.tuple #[]) ∧ FullTab w w.heap.size T w' := by
  unfold NewTab at hN
  have hT : T < w.heap.size := (Array.getElem?_eq_some_iff.1 hN).1
  have c0 : w.cell? ⟨T, 0, none⟩ = some (.int .u32 0) := by simp [World.cell?, hN]
  have c1 : w.cell? ⟨T, 1, none⟩ = some (.int .i32 0) := by simp [World.cell?, hN]
  have z1 : w.frozen? ⟨T, 1, none⟩ = false := frozen_of_row w _ 1 _ _ hN
  have hN1 : (w.setCell ⟨T, 1, none⟩ (.int .i32 1)).heap[T]? = some (.cells #[.int .u32 0, .int .i32 1, .int .u32 0, .slice none 0 0, .map none] tT (0, 0)) := by
    rw [heap_setCell_same w T 1 _ _ _ hN]; simp
  have hp1 : (w.setCell ⟨T, 1, none⟩ (.int .i32 1)).cell? ⟨p, 0, none⟩ = some (.pointer (some ⟨T, 0, none⟩)) := (World.cell?_setCell_other _ ⟨T, 1, none⟩ ⟨p, 0, none⟩ _ (fun h => hpT (by have := congrArg Addr.block h; exact this.symm))).trans hp
  have HLD := Lib.hid (once_load ⟨T, 0, none⟩ 0 false rfl (w.setCell ⟨T, 1, none⟩ (.int .i32 1)) ((World.cell?_setCell_other _ ⟨T, 1, none⟩ ⟨T, 0, none⟩ _ (by simp)).trans c0))
  have hnot : ∀ (x : Bool) (w : World), (Op.unary .not (.bool x)).run Tryd.prog w = .ok (.bool (!x)) w := fun _ _ => rfl
  have HL := Lib.hid (once_lock ⟨T, 1, none⟩ w c1 z1)
  have HF := Lib.hid (fill1_any T p _ _ _ (.int .i64 0) (.int .i64 0) _ hp1 hN1 hpT)
  have hk1 : KeptBut w.heap.size T w (w.setCell ⟨T, 1, none⟩ (.int .i32 1)) := KeptBut.setT _ _ _ _ _
  have hz1 : (w.setCell ⟨T, 1, none⟩ (.int .i32 1)).heap.size = w.heap.size := by simp
  rw [hz1] at HF
  clear hN hN1 hp1 hp c0 c1 z1 hz1
  go_enter_defers Tryd.func67, Tryd.ntmps67
  go_wp2_with fail
  refine HL.out.mono ?_
  rintro e w1 ⟨rfl, rfl⟩
  generalize w.setCell ⟨T, 1, none⟩ (.int .i32 1) = w1 at *
  go_wp2_with fail
  refine HLD.out.mono ?_
  rintro e w2 ⟨rfl, rfl⟩
  go_wp2_with fail
  refine HF.out.mono ?_
  rintro e w3 ⟨rfl, h3⟩
  have H3 := Lib.hid h3
  clear h3
  go_wp2_with fail
  have hD3 := H3.out.below (Below.refl w3.heap.size w3).drew
  have g0 := H3.out.get 0 rfl
  have hT4 := (hD3.set hT 0 (.int .u32 1) (by omega)).get 1 rfl
  have h5 := (hD3.set hT 0 (.int .u32 1) (by omega)).set hT 1 (.int .i32 0) (by omega)
  refine leaves_cons (f := 75) (args := #[.pointer (some ⟨T, 0, none⟩), .bool true]) (by simp) (by simp [go_sem]) ?_
  refine (once_store ⟨T, 0, none⟩ _ .returning _ g0.1 g0.2).mono ?_
  rintro e u' w'' ⟨rfl, rfl, rfl⟩
  refine leaves_cons (f := 74) (args := #[.pointer (some ⟨T, 1, none⟩)]) (by simp [settle]) (by simp [go_sem]) ?_
  refine (once_unlock ⟨T, 1, none⟩ _ _ hT4.1 hT4.2).mono ?_
  rintro e u' w'' ⟨rfl, rfl, rfl⟩
  obtain ⟨lv, k1, k2, k3⟩ := h5
  simp [Leaves, settle, results, Tryd.results67]
  exact ⟨_, lv, k1, hk1.trans k2, k3⟩

theorem Tab.mono {w0 w1 W : World} {base base' T : Nat} {h : List Value} {M : Nat} {L : List Gly} (t : Tab w1 base T h M L W) (hb : base' ≤ base) (hk : KeptBut base' T w0 w1) : Tab w0 base' T h M L W := by
  obtain ⟨lv, h1, h2, h3⟩ := t
  refine ⟨lv, ⟨h1.row, ?_, h1.by_, Nat.le_trans hb h1.low⟩, hk.trans ⟨h2.os, h2.tape, h2.output, h2.size, fun k hk1 hk2 => h2.block k (by omega) hk2⟩, by omega⟩
  refine ⟨h1.l.1, ?_⟩
  rcases h1.l.2 with a | ⟨g, cap, cur, a1, a2, a3⟩
  · exact .inl a
  · exact .inr ⟨g, cap, cur, a1, by omega, a3⟩

set_option maxRecDepth 100000 in
set_option maxHeartbeats 4000000 in
theorem once_do (T p : Nat) (w : World) (hp : w.cell? ⟨p, 0, none⟩ = some (.pointer (some ⟨T, 0, none⟩))) (hN : NewTab w T) (hpT : p ≠ T) :
    Calls Tryd.prog 60 #[.pointer (some ⟨T, 0, none⟩), .func (.func 61) #[] #[.pointer (some ⟨p, 0, none⟩)]] w fun e w' => e = .returned (.tuple #[]) ∧ FullTab w w.heap.size T w' := by
  have c0 : w.cell? ⟨T, 0, none⟩ = some (.int .u32 0) := by unfold NewTab at hN; simp [World.cell?, hN]
  have HLD := Lib.hid (once_load ⟨T, 0, none⟩ 0 false rfl w c0)
  have HS := Lib.hid (once_slow T p w hp hN hpT)
  have hnot : ∀ (x : Bool) (w : World), (Op.unary .not (.bool x)).run Tryd.prog w = .ok (.bool (!x)) w := fun _ _ => rfl
  clear hp hN c0
  go_enter Tryd.func60, Tryd.ntmps60
  go_wp2_with fail
  refine HLD.out.mono ?_
  rintro e w2 ⟨rfl, rfl⟩
  go_wp2_with fail
  refine HS.out.mono ?_
  rintro e w3 ⟨rfl, h3⟩
  have H3 := Lib.hid h3
  clear h3
  go_wp2_with fail
  go_end0
  exact ⟨rfl, H3.out⟩

theorem NewTab.below {w w' : World} {T : Nat} (h : NewTab w T) (hb : Below w.heap.size w w') : NewTab w' T := (hb.block T (Array.getElem?_eq_some_iff.1 h).1).trans h
/-- The table is filled. -/
theorem fill_new (T : Nat) (w : World) (hN : NewTab w T) :
    Calls Tryd.prog 55 #[.pointer (some ⟨T, 0, none⟩)] w fun e w' => e = .returned (.pointer (some ⟨T, 0, none⟩)) ∧ FullTab w w.heap.size T w' := by
  have hT : T < w.heap.size := (Array.getElem?_eq_some_iff.1 hN).1
  have hp : (w.alloc (.cells #[.pointer (some ⟨T, 0, none⟩)] 73)).cell? ⟨w.heap.size, 0, none⟩ = some (.pointer (some ⟨T, 0, none⟩)) := by simp
  have HD := Lib.hid (once_do T w.heap.size _ hp (hN.below (below_new w _)) (by omega))
  have hmf : ∀ (fn : Fn) (first cap : Array Value) (w : World), (Instr.makeFunc fn first cap).run Tryd.prog w = .ok (.func fn first cap) w := fun _ _ _ _ => rfl
  have hp0 := hp
  have hkb : KeptBut w.heap.size T w (w.alloc (.cells #[.pointer (some ⟨T, 0, none⟩)] 73)) := .of_below (below_new w _) (Nat.le_refl _)
  have hz : (w.alloc (.cells #[.pointer (some ⟨T, 0, none⟩)] 73)).heap.size = w.heap.size + 1 := by simp
  clear hN
  go_enter Tryd.func55, Tryd.ntmps55
  go_wp2_with fail
  refine HD.out.mono ?_
  rintro e w3 ⟨rfl, M, h3⟩
  have c3 := h3.cell (b := w.heap.size) (by omega) (by omega) hp0
  have H3 := Lib.hid h3
  clear h3
  go_wp2_with fail
  go_ret
  exact ⟨rfl, M, H3.out.mono (by omega) hkb⟩
end Go.Proofs.YteojnejomgomjaaDoor
