/-
  The table of glyphs is filled once: sync.Once's roads; the parts of the slow one are the kit's own walks of a lazy value, turned to this program.
-/
import Derived.Test.YtflpihedhccdfaaGreatDoorProg
import Derived.Test.YtflpihedhccdfaaGreatDoorReg
import Derived.WalkKit
import Derived.WalkSpells
import Derived.WalkLawsBesides
import Derived.Lib.Hide
import Derived.Lib.MinMax
import Derived.Deep.QuietTactic
import Derived.BigQuiet
import Derived.OwnWalk
import Derived.Deep.AppendLies
import Derived.KernelRfl
import Derived.Tactics
import Derived.Tactics2
import Derived.Defers
import Derived.Laws.Pointers
import Derived.Laws.LoneSync
import Derived.RegionTactic
import Derived.RegionCalls
import Derived.ChangeAlike
import Derived.Test.YtflpihedhccdfaaGreatDoorLxM4
import Derived.RangeFuncNested
import Derived.RangeFuncBound
import Derived.RangeFuncCalls
import Derived.RangeFuncLeaves
import Derived.RangeFuncBox
import Derived.OwnWalkIn
import Derived.TacticsInMore
import Derived.LoopNIn
import Derived.LoopIn
import Derived.Deep.RegionLaw
import Derived.Deep.Cut
import Derived.Test.YtflpihedhccdfaaGreatDoorRegIn
import Derived.Test.YtflpihedhccdfaaGreatDoorJoint2
import Derived.Test.YtflpihedhccdfaaGreatDoorLxM2
set_option linter.unusedSimpArgs false
set_option linter.unusedVariables false
namespace Go.Proofs.YtflpihedhccdfaaGreatDoor
open Go.RowKit Go.Maps

theorem once_disable (w : World) : (callFunc 135 #[]).run Tryz.prog w = .ok (.value (.tuple #[])) w := run_call_mark0 Tryz.func135 (by kernel_rfl) (by kernel_rfl) (by kernel_rfl) .disable (by kernel_rfl) w
theorem once_enable (w : World) : (callFunc 137 #[]).run Tryz.prog w = .ok (.value (.tuple #[])) w := run_call_mark0 Tryz.func137 (by kernel_rfl) (by kernel_rfl) (by kernel_rfl) .enable (by kernel_rfl) w
theorem once_acquire (a : Addr) (w : World) : (callFunc 138 #[.pointer (some a)]).run Tryz.prog w = .ok (.value (.tuple #[])) w := run_call_marked Tryz.func138 (by kernel_rfl) (by kernel_rfl) (by kernel_rfl) .acquire (by kernel_rfl) a w
theorem once_release (a : Addr) (w : World) : (callFunc 140 #[.pointer (some a)]).run Tryz.prog w = .ok (.value (.tuple #[])) w := run_call_marked Tryz.func140 (by kernel_rfl) (by kernel_rfl) (by kernel_rfl) .releaseMerge (by kernel_rfl) a w

set_option maxRecDepth 100000 in
theorem once_store (a : Addr) (x : Value) (u : FrameMode) (w : World) (hc : w.cell? a = some x) (hz : w.frozen? a = false) :
    CallsD Tryz.prog 130 #[.pointer (some a), .bool true] u w fun e u' w' => u' = u ∧ (e = .returned (.tuple #[]) ∧ w' = w.drew.setCell a (.int .u32 1)) := by
  have hc' : w.drew.cell? a = some x := by go_simp
  have hz' : w.drew.frozen? a = false := by go_simp
  have hst := run_call_store (P := Tryz.prog) Tryz.func133 (by kernel_rfl) (by kernel_rfl) (by kernel_rfl) (by kernel_rfl) (k := .u32) (y := 1) hc' hz'
  go_enter_d Tryz.func130, Tryz.ntmps130
  go_wp2
  go_region_calls
  all_goals (go_end0; exact ⟨rfl, rfl⟩)

set_option maxRecDepth 100000 in
theorem once_unlock (a : Addr) (u : FrameMode) (w : World) (hc : w.cell? a = some (.int .i32 1)) (hz : w.frozen? a = false) :
    CallsD Tryz.prog 129 #[.pointer (some a)] u w fun e u' w' => u' = u ∧ (e = .returned (.tuple #[]) ∧ w' = w.setCell a (.int .i32 0)) := by
  have hd := once_disable
  have he := once_enable
  have hr := once_release
  have hadd := run_call_add (P := Tryz.prog) Tryz.func141 (by kernel_rfl) (by kernel_rfl) (by kernel_rfl) .i32 (by kernel_rfl) (y := -1) (s := 0) hc hz (by simp [go_sem]; rfl)
  have hcv := run_convert_to_unsafe (P := Tryz.prog) (src := 217) (dst := 146) Tryz.underlying217 Tryz.underlying146 (by kernel_rfl) hc
  go_enter_d Tryz.func129, Tryz.ntmps129
  go_wp2
  go_end0
  go_wp2
  go_end0
  exact ⟨rfl, rfl⟩

set_option maxRecDepth 100000 in
theorem once_lock (a : Addr) (w : World) (hc : w.cell? a = some (.int .i32 0)) (hz : w.frozen? a = false) :
    Calls Tryz.prog 128 #[.pointer (some a)] w fun e w' => e = .returned (.tuple #[]) ∧ w' = w.setCell a (.int .i32 1) := by
  have hd := once_disable
  have he := once_enable
  have ha := once_acquire
  have hcas := run_call_cas_hit (P := Tryz.prog) Tryz.func136 (by kernel_rfl) (by kernel_rfl) (by kernel_rfl) .i32 (by kernel_rfl) (y := 1) hc hz
  have hc' : (w.setCell a (.int .i32 1)).cell? a = some (.int .i32 1) := World.cell?_setCell_same w a _ hc
  have hcv := run_convert_to_unsafe (P := Tryz.prog) (src := 217) (dst := 146) Tryz.underlying217 Tryz.underlying146 (by kernel_rfl) hc'
  go_enter Tryz.func128, Tryz.ntmps128
  go_wp2
  first | go_end0 | (simp only [Exit.inBlock, Exit.then]; refine bodyPost_ret (results_none rfl _ _ _) rfl ?_) | refine bodyPost_ret (results_none rfl _ _ _) rfl ?_
  go_wp2
  go_end0
  exact ⟨rfl, rfl⟩

/-- A table that nothing has been laid into. -/
def NewTab (w : World) (T : Nat) : Prop := w.heap[T]? = some (.cells #[.int .u32 0, .int .i32 0, .int .u32 0, .slice none 0 0, .map none] tT (0, 0))
/-- A table that has been filled. -/
def FullTab (w0 : World) (base T : Nat) (W : World) : Prop := ∃ M, Tab w0 base T [.int .u32 1, .int .i32 0, .int .u32 0] M glyphs W

theorem Tab.set {w0 W : World} {base T : Nat} {x y z : Value} {M : Nat} {L : List Gly} (t : Tab w0 base T [x, y, z] M L W) (hT : T < base) (o : Nat) (v : Value) (ho : o < 3) : Tab w0 base T ([x, y, z].set o v) M L (W.setCell ⟨T, o, none⟩ v) := by
  obtain ⟨lv, h1, h2, h3⟩ := t
  have hM := h1.low
  have hrow := h1.row
  refine ⟨lv, ⟨?_, h1.l.kept (grown_setCell W ⟨T, o, none⟩ v) (Or.inr (fun e => own_apart_cells h1.l hrow (by decide) e)), h1.by_.kept (grown_setCell W ⟨T, o, none⟩ v) (by simp; omega), h1.low⟩, h2.trans (KeptBut.setT _ _ _ _ _), by simpa using h3⟩
  rw [heap_setCell_same W T o _ _ _ hrow]
  match o, ho with
  | 0, _ => rfl
  | 1, _ => rfl
  | 2, _ => rfl
theorem Tab.get {w0 W : World} {base T : Nat} {h : List Value} {M : Nat} {L : List Gly} (t : Tab w0 base T h M L W) (o : Nat) {v : Value} (hv : h[o]? = some v) : W.cell? ⟨T, o, none⟩ = some v ∧ W.frozen? ⟨T, o, none⟩ = false := by
  obtain ⟨lv, h1, h2, h3⟩ := t
  have hrow := h1.row
  have hl : o < h.length := (List.getElem?_eq_some_iff.1 hv).1
  refine ⟨?_, frozen_of_row W _ o _ _ hrow⟩
  simp only [World.cell?, hrow]
  simp [List.getElem?_append_left hl, hv]

theorem once_load (a : Addr) (d : Int) (b : Bool) (hb : (d != 0) = b) (w : World) (h0 : w.cell? a = some (.int .u32 d)) :
    Calls Tryz.prog 123 #[.pointer (some a)] w fun e w' => e = .returned (.bool b) ∧ w' = w := by
  have hl := run_call_load (P := Tryz.prog) Tryz.func127 (by kernel_rfl) (by kernel_rfl) (by kernel_rfl) .u32 (by kernel_rfl) h0
  go_enter Tryz.func123, Tryz.ntmps123
  go_wp2
  go_ret
  exact ⟨by rw [← hb]; rfl, rfl⟩

set_option maxRecDepth 100000 in
set_option maxHeartbeats 4000000 in
theorem once_slow (T p : Nat) (w : World) (hp : w.cell? ⟨p, 0, none⟩ = some (.pointer (some ⟨T, 0, none⟩))) (hN : NewTab w T) (hpT : p ≠ T) :
    Calls Tryz.prog 124 #[.pointer (some ⟨T, 0, none⟩), .func (.func 118) #[] #[.pointer (some ⟨p, 0, none⟩)]] w fun e w' => e = .returned (.tuple #[]) ∧ FullTab w w.heap.size T w' := by
  unfold NewTab at hN
  have hT : T < w.heap.size := (Array.getElem?_eq_some_iff.1 hN).1
  have c0 : w.cell? ⟨T, 0, none⟩ = some (.int .u32 0) := by simp [World.cell?, hN]
  have c1 : w.cell? ⟨T, 1, none⟩ = some (.int .i32 0) := by simp [World.cell?, hN]
  have z1 : w.frozen? ⟨T, 1, none⟩ = false := frozen_of_row w _ 1 _ _ hN
  have hN1 : (w.setCell ⟨T, 1, none⟩ (.int .i32 1)).heap[T]? = some (.cells #[.int .u32 0, .int .i32 1, .int .u32 0, .slice none 0 0, .map none] tT (0, 0)) := by
    rw [heap_setCell_same w T 1 _ _ _ hN]; simp
  have hp1 : (w.setCell ⟨T, 1, none⟩ (.int .i32 1)).cell? ⟨p, 0, none⟩ = some (.pointer (some ⟨T, 0, none⟩)) := (World.cell?_setCell_other _ ⟨T, 1, none⟩ ⟨p, 0, none⟩ _ (fun h => hpT (by have := congrArg Addr.block h; exact this.symm))).trans hp
  have HLD := Lib.hid (once_load ⟨T, 0, none⟩ 0 false rfl (w.setCell ⟨T, 1, none⟩ (.int .i32 1)) ((World.cell?_setCell_other _ ⟨T, 1, none⟩ ⟨T, 0, none⟩ _ (by simp)).trans c0))
  have hnot : ∀ (x : Bool) (w : World), (Op.unary .not (.bool x)).run Tryz.prog w = .ok (.bool (!x)) w := fun _ _ => rfl
  have HL := Lib.hid (once_lock ⟨T, 1, none⟩ w c1 z1)
  have HF := Lib.hid (fill1_any T p _ _ _ (.int .i64 0) (.int .i64 0) _ hp1 hN1 hpT)
  have hk1 : KeptBut w.heap.size T w (w.setCell ⟨T, 1, none⟩ (.int .i32 1)) := KeptBut.setT _ _ _ _ _
  have hz1 : (w.setCell ⟨T, 1, none⟩ (.int .i32 1)).heap.size = w.heap.size := by simp
  rw [hz1] at HF
  clear hN hN1 hp1 hp c0 c1 z1 hz1
  go_enter_defers Tryz.func124, Tryz.ntmps124
  go_wp2_with fail
  refine HL.out.mono ?_
  rintro e w1 ⟨rfl, rfl⟩
  generalize w.setCell ⟨T, 1, none⟩ (.int .i32 1) = w1 at *
  go_wp2_with fail
  refine HLD.out.mono ?_
  rintro e w2 ⟨rfl, rfl⟩
  go_wp2_with fail
  refine HF.out.mono ?_
  rintro e w3 ⟨rfl, h3⟩
  have H3 := Lib.hid h3
  clear h3
  go_wp2_with fail
  have hD3 := H3.out.below (Below.refl w3.heap.size w3).drew
  have g0 := H3.out.get 0 rfl
  have hT4 := (hD3.set hT 0 (.int .u32 1) (by omega)).get 1 rfl
  have h5 := (hD3.set hT 0 (.int .u32 1) (by omega)).set hT 1 (.int .i32 0) (by omega)
  refine leaves_cons (f := 130) (args := #[.pointer (some ⟨T, 0, none⟩), .bool true]) (by simp) (by simp [go_sem]) ?_
  refine (once_store ⟨T, 0, none⟩ _ .returning _ g0.1 g0.2).mono ?_
  rintro e u' w'' ⟨rfl, rfl, rfl⟩
  refine leaves_cons (f := 129) (args := #[.pointer (some ⟨T, 1, none⟩)]) (by simp [settle]) (by simp [go_sem]) ?_
  refine (once_unlock ⟨T, 1, none⟩ _ _ hT4.1 hT4.2).mono ?_
  rintro e u' w'' ⟨rfl, rfl, rfl⟩
  obtain ⟨lv, k1, k2, k3⟩ := h5
  simp [Leaves, settle, results, Tryz.results124]
  exact ⟨_, lv, k1, hk1.trans k2, k3⟩

theorem Tab.mono {w0 w1 W : World} {base base' T : Nat} {h : List Value} {M : Nat} {L : List Gly} (t : Tab w1 base T h M L W) (hb : base' ≤ base) (hk : KeptBut base' T w0 w1) : Tab w0 base' T h M L W := by
  obtain ⟨lv, h1, h2, h3⟩ := t
  refine ⟨lv, ⟨h1.row, ?_, h1.by_, Nat.le_trans hb h1.low⟩, hk.trans ⟨h2.os, h2.tape, h2.output, h2.size, fun k hk1 hk2 => h2.block k (by omega) hk2⟩, by omega⟩
  refine ⟨h1.l.1, ?_⟩
  rcases h1.l.2 with a | ⟨g, cap, cur, a1, a2, a3⟩
  · exact .inl a
  · exact .inr ⟨g, cap, cur, a1, by omega, a3⟩

set_option maxRecDepth 100000 in
set_option maxHeartbeats 4000000 in
theorem once_do (T p : Nat) (w : World) (hp : w.cell? ⟨p, 0, none⟩ = some (.pointer (some ⟨T, 0, none⟩))) (hN : NewTab w T) (hpT : p ≠ T) :
    Calls Tryz.prog 117 #[.pointer (some ⟨T, 0, none⟩), .func (.func 118) #[] #[.pointer (some ⟨p, 0, none⟩)]] w fun e w' => e = .returned (.tuple #[]) ∧ FullTab w w.heap.size T w' := by
  have c0 : w.cell? ⟨T, 0, none⟩ = some (.int .u32 0) := by unfold NewTab at hN; simp [World.cell?, hN]
  have HLD := Lib.hid (once_load ⟨T, 0, none⟩ 0 false rfl w c0)
  have HS := Lib.hid (once_slow T p w hp hN hpT)
  have hnot : ∀ (x : Bool) (w : World), (Op.unary .not (.bool x)).run Tryz.prog w = .ok (.bool (!x)) w := fun _ _ => rfl
  clear hp hN c0
  go_enter Tryz.func117, Tryz.ntmps117
  go_wp2_with fail
  refine HLD.out.mono ?_
  rintro e w2 ⟨rfl, rfl⟩
  go_wp2_with fail
  refine HS.out.mono ?_
  rintro e w3 ⟨rfl, h3⟩
  have H3 := Lib.hid h3
  clear h3
  go_wp2_with fail
  go_end0
  exact ⟨rfl, H3.out⟩

theorem NewTab.below {w w' : World} {T : Nat} (h : NewTab w T) (hb : Below w.heap.size w w') : NewTab w' T := (hb.block T (Array.getElem?_eq_some_iff.1 h).1).trans h
/-- The table is filled. -/
theorem fill_new (T : Nat) (w : World) (hN : NewTab w T) :
    Calls Tryz.prog 112 #[.pointer (some ⟨T, 0, none⟩)] w fun e w' => e = .returned (.pointer (some ⟨T, 0, none⟩)) ∧ FullTab w w.heap.size T w' := by
  have hT : T < w.heap.size := (Array.getElem?_eq_some_iff.1 hN).1
  have hp : (w.alloc (.cells #[.pointer (some ⟨T, 0, none⟩)] 171)).cell? ⟨w.heap.size, 0, none⟩ = some (.pointer (some ⟨T, 0, none⟩)) := by simp
  have HD := Lib.hid (once_do T w.heap.size _ hp (hN.below (below_new w _)) (by omega))
  have hmf : ∀ (fn : Fn) (first cap : Array Value) (w : World), (Instr.makeFunc fn first cap).run Tryz.prog w = .ok (.func fn first cap) w := fun _ _ _ _ => rfl
  have hp0 := hp
  have hkb : KeptBut w.heap.size T w (w.alloc (.cells #[.pointer (some ⟨T, 0, none⟩)] 171)) := .of_below (below_new w _) (Nat.le_refl _)
  have hz : (w.alloc (.cells #[.pointer (some ⟨T, 0, none⟩)] 171)).heap.size = w.heap.size + 1 := by simp
  clear hN
  go_enter Tryz.func112, Tryz.ntmps112
  go_wp2_with fail
  refine HD.out.mono ?_
  rintro e w3 ⟨rfl, M, h3⟩
  have c3 := h3.cell (b := w.heap.size) (by omega) (by omega) hp0
  have H3 := Lib.hid h3
  clear h3
  go_wp2_with fail
  go_ret
  exact ⟨rfl, M, H3.out.mono (by omega) hkb⟩
end Go.Proofs.YtflpihedhccdfaaGreatDoor
/-
  A glyph's class: by the program.
-/
namespace Go.Proofs.YtflpihedhccdfaaGreatDoor
open Go.RowKit Go.Maps

theorem addLook_none {s : ByteArray} : ∀ (l : List Gly) (f : ByteArray → Option Value), (∀ x ∈ l, x.glyph ≠ s) → addLook f l s = f s
  | [], _, _ => rfl
  | x :: l, f, h => by
    have hx := h x List.mem_cons_self
    have ih := addLook_none l (fun y => if y = x.glyph then some x.val else f y) (fun y hy => h y (List.mem_cons_of_mem _ hy))
    show addLook (fun y => if y = x.glyph then some x.val else f y) l s = f s
    rw [ih]
    exact if_neg (fun e => hx e.symm)
theorem addLook_class {s : ByteArray} : ∀ (l : List Gly) (f : ByteArray → Option Value), (l.map Gly.glyph).Nodup → (∃ x ∈ l, x.glyph = s ∧ addLook f l s = some x.val ∧ classIn s l = x.cls) ∨ ((∀ x ∈ l, x.glyph ≠ s) ∧ addLook f l s = f s ∧ classIn s l = 0)
  | [], f, _ => .inr ⟨fun x hx => by simp at hx, rfl, rfl⟩
  | y :: l, f, h => by
    rw [List.map_cons, List.nodup_cons] at h
    have e : addLook f (y :: l) s = addLook (fun z => if z = y.glyph then some y.val else f z) l s := rfl
    by_cases hy : y.glyph = s
    · have hn : ∀ x ∈ l, x.glyph ≠ s := fun x hx e => h.1 (by rw [hy, ← e]; exact List.mem_map_of_mem hx)
      refine .inl ⟨y, List.mem_cons_self, hy, ?_, ?_⟩
      · rw [e, addLook_none l _ hn]
        exact if_pos hy.symm
      · unfold classIn
        rw [if_pos hy]
    · have e2 : classIn s (y :: l) = classIn s l := by rw [classIn]; exact if_neg hy
      rcases addLook_class l (fun z => if z = y.glyph then some y.val else f z) h.2 with ⟨x, h1, h2, h3, h4⟩ | ⟨h1, h2, h3⟩
      · exact .inl ⟨x, List.mem_cons_of_mem _ h1, h2, by rw [e]; exact h3, by rw [e2]; exact h4⟩
      · refine .inr ⟨fun x hx => ?_, ?_, by rw [e2]; exact h3⟩
        · rcases List.mem_cons.1 hx with rfl | hx
          · exact hy
          · exact h1 x hx
        · rw [e, h2]
          exact if_neg (fun e => hy e.symm)
theorem glyphs_nodup : (glyphs.map Gly.glyph).Nodup := by decide +kernel
def noGly : Gly := ⟨ByteArray.empty, ByteArray.empty, 0⟩
theorem look_class (s : ByteArray) : ∃ x : Gly, (addLook (fun _ => none) glyphs s).getD noGly.val = x.val ∧ gClass s = x.cls := by
  rcases addLook_class (s := s) glyphs (fun _ => none) glyphs_nodup with ⟨x, _, _, h3, h4⟩ | ⟨_, h2, h3⟩
  · exact ⟨x, by rw [h3]; rfl, h4⟩
  · exact ⟨noGly, by rw [h2]; rfl, h3⟩
/-- Three cells of a block are stored anew. -/
theorem set3 {w : World} {b : Nat} {a1 a2 a3 b1 b2 b3 : Value} {t : TypeId} (h : w.heap[b]? = some (.cells #[a1, a2, a3] t (0, 0))) :
    (((w.setCell ⟨b, 0, none⟩ b1).setCell ⟨b, 1, none⟩ b2).setCell ⟨b, 2, none⟩ b3).heap[b]? = some (.cells #[b1, b2, b3] t (0, 0)) := by
  have h1 := heap_setCell_same w b 0 _ _ b1 h
  have h2 := heap_setCell_same _ b 1 _ _ b2 h1
  have h3 := heap_setCell_same _ b 2 _ _ b3 h2
  rw [h3]
  simp
theorem zeroG (w : World) : (zeroValue 188).run Tryz.prog w = .ok noGly.val w := by kernel_rfl

set_option maxRecDepth 100000 in
set_option maxHeartbeats 4000000 in
theorem of_new (T : Nat) (s : ByteArray) (w : World) (hs : s.size ≤ maxLen) (hN : NewTab w T) :
    Calls Tryz.prog 105 #[.pointer (some ⟨T, 0, none⟩), .string s] w fun e w' => ∃ x : Gly, e = .returned (.agg #[.string x.glyph, .string x.letter, .int .i64 x.cls]) ∧ gClass s = x.cls ∧ KeptBut w.heap.size T w w' := by
  have hT : T < w.heap.size := (Array.getElem?_eq_some_iff.1 hN).1
  have hB := below_new w (.cells #[.string ByteArray.empty, .string ByteArray.empty, .int .i64 0] tG)
  have hX := heap_alloc_new w (.cells #[.string ByteArray.empty, .string ByteArray.empty, .int .i64 0] tG)
  have hz : (w.alloc (.cells #[.string ByteArray.empty, .string ByteArray.empty, .int .i64 0] tG)).heap.size = w.heap.size + 1 := by simp
  have HF := Lib.hid (fill_new T _ (hN.below hB))
  have hk := Tryz.underlying9
  have hmt := Tryz.underlying182
  obtain ⟨x, hx1, hx2⟩ := look_class s
  have HX1 := Lib.hid hx1
  have HX2 := Lib.hid hx2
  clear hx1 hx2 hN
  go_enter Tryz.func105, Tryz.ntmps105
  go_wp2_with fail
  refine HF.out.mono ?_
  rintro e w3 ⟨rfl, M, lv, h1, h2, h3⟩
  rw [hz] at h2
  have hX3 := (h2.block w.heap.size (by omega) (by omega)).trans hX
  have c4 : w3.cell? ⟨T, 4, none⟩ = some (.map (some M)) := by
    have := h1.row
    simp [World.cell?, this]
  have hget := h1.by_.get false hk hmt (zeroG w3) s hs
  rw [HX1.out] at hget
  have HK := Lib.hid h2
  have x0 : w3.cell? ⟨w.heap.size, 0, none⟩ = some (.string ByteArray.empty) := by simp [World.cell?, hX3]
  have x1 : w3.cell? ⟨w.heap.size, 1, none⟩ = some (.string ByteArray.empty) := by simp [World.cell?, hX3]
  have x2 : w3.cell? ⟨w.heap.size, 2, none⟩ = some (.int .i64 0) := by simp [World.cell?, hX3]
  have z0 : ∀ j, w3.frozen? ⟨w.heap.size, j, none⟩ = false := fun j => frozen_of_row w3 _ j _ _ hX3
  unfold Gly.val at hget
  simp only [Bool.false_eq_true, if_false] at hget
  clear h1 h2 h3 hB
  go_wp2_with fail
  have hX4 := set3 (b1 := .string x.glyph) (b2 := .string x.letter) (b3 := .int .i64 x.cls) hX3
  have hk4 : KeptBut w.heap.size T w (((w3.setCell ⟨w.heap.size, 0, none⟩ (.string x.glyph)).setCell ⟨w.heap.size, 1, none⟩ (.string x.letter)).setCell ⟨w.heap.size, 2, none⟩ (.int .i64 x.cls)) := by
    refine (KeptBut.of_below (below_new w (.cells #[.string ByteArray.empty, .string ByteArray.empty, .int .i64 0] tG)) (Nat.le_refl _)).trans (KeptBut.trans (b := w3) ?_ (.of_below ((((Below.refl w.heap.size w3).setCell (p := ⟨w.heap.size, 0, none⟩) (Nat.le_refl _) _).setCell (p := ⟨w.heap.size, 1, none⟩) (Nat.le_refl _) _).setCell (p := ⟨w.heap.size, 2, none⟩) (Nat.le_refl _) _) (Nat.le_refl _)))
    have h := HK.out
    exact ⟨h.os, h.tape, h.output, h.size, fun k hk1 hk2 => h.block k (by omega) hk2⟩
  generalize ((w3.setCell ⟨w.heap.size, 0, none⟩ (.string x.glyph)).setCell ⟨w.heap.size, 1, none⟩ (.string x.letter)).setCell ⟨w.heap.size, 2, none⟩ (.int .i64 x.cls) = W4 at *
  have y0 : W4.cell? ⟨w.heap.size, 0, none⟩ = some (.string x.glyph) := by simp [World.cell?, hX4]
  have y1 : W4.cell? ⟨w.heap.size, 1, none⟩ = some (.string x.letter) := by simp [World.cell?, hX4]
  have y2 : W4.cell? ⟨w.heap.size, 2, none⟩ = some (.int .i64 x.cls) := by simp [World.cell?, hX4]
  exact bodyPost_ret (v := .agg #[.string x.glyph, .string x.letter, .int .i64 x.cls]) (by simp [results, Tryz.results105, go_sem, y0, y1, y2]) rfl ⟨x, rfl, HX2.out, hk4⟩

set_option maxRecDepth 100000 in
set_option maxHeartbeats 4000000 in
/-- A glyph's class. -/
theorem class_any (s : ByteArray) (w : World) (hs : s.size ≤ maxLen) :
    Calls Tryz.prog 97 #[.string s] w fun e w' => e = .returned (.int .i64 (gClass s)) ∧ Below w.heap.size w w' := by
  have HN : NewTab (w.alloc (.cells #[.int .u32 0, .int .i32 0, .int .u32 0, .slice none 0 0, .map none] tT)) w.heap.size := heap_alloc_new w _
  have HO := Lib.hid (of_new w.heap.size s _ hs HN)
  have hB := below_new w (.cells #[.int .u32 0, .int .i32 0, .int .u32 0, .slice none 0 0, .map none] tT)
  have hz : (w.alloc (.cells #[.int .u32 0, .int .i32 0, .int .u32 0, .slice none 0 0, .map none] tT)).heap.size = w.heap.size + 1 := by simp
  clear HN
  go_enter Tryz.func97, Tryz.ntmps97
  go_wp2_with fail
  refine HO.out.mono ?_
  rintro e w3 ⟨x, rfl, hx, hk⟩
  have HX := Lib.hid hx
  have hb3 : Below w.heap.size w w3 := hB.trans ⟨hk.os, hk.tape, hk.output, hk.size, fun k hk1 => hk.block k (by omega) (by omega)⟩
  have hfield : ∀ W : World, (Instr.field tG (.agg #[.string x.glyph, .string x.letter, .int .i64 x.cls]) 2).run Tryz.prog W = .ok (.int .i64 x.cls) W := fun W => by kernel_rfl
  clear hx hk
  go_wp2_with fail
  go_ret
  exact ⟨by rw [HX.out]; rfl, hb3⟩
end Go.Proofs.YtflpihedhccdfaaGreatDoor
/-
  The glyphs one by one: the iterator.
-/
namespace Go.Proofs.YtflpihedhccdfaaGreatDoor
open Go.RowKit Go.Maps

attribute [local go_sem] Oper.semAt_some

/-- Blocks from n on stand as they stood. -/
def Above (n : Nat) (W W' : World) : Prop := W.heap.size ≤ W'.heap.size ∧ ∀ k, n ≤ k → k < W.heap.size → W'.heap[k]? = W.heap[k]?
theorem Above.own {n : Nat} {W W' : World} {base : Nat} {e : TypeId} {size : Nat} {v : Value} {m : Nat} {xs : List Value} (h : Above n W W') (hn : n ≤ base) (ho : W.ownsRow base e size v m xs) : W'.ownsRow base e size v m xs := by
  refine ⟨ho.1, ?_⟩
  rcases ho.2 with h1 | ⟨g, cap, cur, h1, h2, h3, h4⟩
  · exact .inl h1
  · exact .inr ⟨g, cap, cur, h1, h2, (h.2 g (by omega) (Array.getElem?_eq_some_iff.1 h3).1).trans h3, h4⟩

theorem all_any (T : Nat) (w : World) :
    Calls Tryz.prog 110 #[.pointer (some ⟨T, 0, none⟩)] w fun e w' => e = .returned (.func (.func 115) #[] #[.pointer (some ⟨w.heap.size, 0, none⟩)]) ∧ w' = w.alloc (.cells #[.pointer (some ⟨T, 0, none⟩)] 171) := by
  go_enter Tryz.func110, Tryz.ntmps110
  go_wp2_with fail
  go_ret
  exact ⟨rfl, rfl⟩

set_option maxRecDepth 100000 in
set_option maxHeartbeats 8000000 in
theorem all1_any (n : Nat) (L pb T : Nat) (J : List Gly → World → Prop) (Jx : World → Prop) (W : World) (hp : W.cell? ⟨pb, 0, none⟩ = some (.pointer (some ⟨T, 0, none⟩))) (hN : NewTab W T) (h0 : ∀ W', FullTab W W.heap.size T W' → J [] W')
    (hst : ∀ pre W1 W2, J pre W1 → Below W.heap.size W1 W2 → J pre W2)
    (hY : ∀ (i : Nat) (x : Gly) (W1 : World), glyphs[i]? = some x → J (glyphs.take i) W1 → W.heap.size ≤ W1.heap.size → YieldAt Fence.wide n Tryz.prog L #[.agg #[.string x.glyph, .string x.letter, .int .i64 x.cls]] W1 fun e W' =>
      (e = .returned (.bool true) ∧ J (glyphs.take (i + 1)) W' ∧ Above W.heap.size W1 W') ∨ (e = .returned (.bool false) ∧ Jx W')) :
    Calls Tryz.prog 115 #[.func (.yield L) #[] #[], .pointer (some ⟨pb, 0, none⟩)] W fun e W' => (∃ v, e = .returned v) ∧ (J glyphs W' ∨ Jx W') := by
  have HF := Lib.hid (fill_new T W hN)
  have HY := Lib.hid hY
  have HST := Lib.hid hst
  have H0 := Lib.hid h0
  clear hY hst h0 hN
  have hgl : glyphs.length = 38 := rfl
  have HGL := Lib.hid hgl
  generalize hn : W.heap.size = n0 at *
  go_enter Tryz.func115, Tryz.ntmps115
  go_wp2_with fail
  go_step3
  go_wp2_with fail
  go_step3
  go_wp2_with fail
  refine HF.out.mono ?_
  rintro e W0 ⟨rfl, hF⟩
  have HJ0 := Lib.hid (H0.out _ hF)
  obtain ⟨M, lv, h1, h2, h3⟩ := hF
  have hrow := h1.row
  have c3 : W0.cell? ⟨T, 3, none⟩ = some lv := by simp [World.cell?, hrow]
  have hown := h1.l
  obtain ⟨A, c, rfl, _, hH, _⟩ := holdsG_of_own hown
  rw [hgl] at hown c3
  have HO := Lib.hid hown
  clear h1 h2 hrow hown hH HF H0 hgl
  go_wp2_with fail
  go_loopw [11] (fun s wr => ∃ (i : Nat), s = .int .i64 i ∧ i ≤ 38 ∧ Hid (J (glyphs.take i) wr) ∧ Hid (wr.ownsRow n0 tG 3 (.slice A 38 c) 38 (glyCells glyphs)) ∧ n0 ≤ wr.heap.size) (fun s _ => 38 - (intOf s).toNat)
  case atStart => exact ⟨0, rfl, Nat.zero_le _, HJ0, HO, h3⟩
  case round =>
    obtain ⟨i, rfl, hi, HJ, HW, hz⟩ := hrel
    by_cases hlt : i < 38
    · have g := List.getElem?_eq_getElem (l := glyphs) (i := i) (by rw [HGL.out]; exact hlt)
      generalize glyphs[i]'(by rw [HGL.out]; exact hlt) = x at *
      have hw := HW.out
      rw [← HGL.out] at hw
      obtain ⟨A', c', e, _, hH, _⟩ := holdsG_of_own hw
      cases e
      obtain ⟨b, off, rfl, d0, d1, d2⟩ := hH i x g
      have lb : b < wr.heap.size := cell_lt d0
      have hb1 := below_new wr (.cells #[.string x.glyph, .string x.letter, .int .i64 x.cls] tG)
      have HB1 := Lib.hid (HST.out _ _ _ HJ.out (hb1.mono hz))
      obtain ⟨fn, tmps, assign, body, hy, hR⟩ := HY.out i x _ g HB1.out (by simp; omega)
      have HR := Lib.hid hR
      have HO1 := Lib.hid (own_below HW.out hb1)
      clear hR hb1 hw hH g
      have x0 : (wr.alloc (.cells #[.string x.glyph, .string x.letter, .int .i64 x.cls] tG)).cell? ⟨wr.heap.size, 0, none⟩ = some (.string x.glyph) := by simp
      have x1 : (wr.alloc (.cells #[.string x.glyph, .string x.letter, .int .i64 x.cls] tG)).cell? ⟨wr.heap.size, 1, none⟩ = some (.string x.letter) := by simp
      have x2 : (wr.alloc (.cells #[.string x.glyph, .string x.letter, .int .i64 x.cls] tG)).cell? ⟨wr.heap.size, 2, none⟩ = some (.int .i64 x.cls) := by simp
      have hz1 : n0 ≤ (wr.alloc (.cells #[.string x.glyph, .string x.letter, .int .i64 x.cls] tG)).heap.size := by simp; omega
      go_upto_region 3 with fail
      generalize wr.alloc (.cells #[.string x.glyph, .string x.letter, .int .i64 x.cls] tG) = w1 at *
      refine (wpIn_wide (n := n + 1)).1 ?_
      gi_wp2_with fail
      refine HR.out.mono ?_
      rintro e w4 (⟨rfl, hJ4, hA4⟩ | ⟨rfl, hJ4⟩)
      · have HJ4 := Lib.hid hJ4
        have HO4 := Lib.hid (hA4.own (Nat.le_refl _) HO1.out)
        have hz4 : n0 ≤ w4.heap.size := Nat.le_trans hz1 hA4.1
        clear hJ4 hA4
        gi_wp2_with fail
        go_wp2_with fail
        go_roundw
        case rel => exact ⟨i + 1, by go_num, by omega, HJ4, HO4, hz4⟩
        case measure => simp [intOf]; omega
      · have HJ4 := Lib.hid hJ4
        clear hJ4
        gi_wp2_with fail
        go_wp2_with fail
        try rw [Exit.noGoto_normal]
        go_end0
        exact ⟨⟨_, rfl⟩, .inr HJ4.out⟩
    · obtain rfl : i = 38 := by omega
      have hJe := HJ.out
      rw [← HGL.out, List.take_of_length_le (Nat.le_refl _)] at hJe
      have HJe := Lib.hid hJe
      clear hJe HJ
      go_wp2_with fail
      try rw [Exit.noGoto_normal]
      go_end0
      exact ⟨⟨_, rfl⟩, .inl HJe.out⟩
end Go.Proofs.YtflpihedhccdfaaGreatDoor
/-
  The walk of 'Few'.
-/
namespace Go.Proofs.YtflpihedhccdfaaGreatDoor
open Go.RowKit

theorem infoTok : (Tryz.prog.info? 55).map (fun i => (i.zero, i.size, i.bytes)) = some (some (.agg #[.int .i64 0, .string ByteArray.empty, .string ByteArray.empty]), 3, 40) := by kernel_rfl

end Go.Proofs.YtflpihedhccdfaaGreatDoor
