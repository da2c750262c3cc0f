/-
  Walk: what edits make of a text, by the program.
-/
import Derived.Test.YtkfdjffoljkomaaDoorProg
import Derived.Test.YtkfdjffoljkomaaDoorReg
import Derived.WalkKit
import Derived.WalkSpells
import Derived.WalkLawsBesides
import Derived.Lib.Hide
import Derived.Lib.MinMax
import Derived.Deep.QuietTactic
import Derived.BigQuiet
import Derived.OwnWalk
import Derived.Deep.AppendLies
import Derived.KernelRfl
import Derived.Test.YtkfdjffoljkomaaDoorRegIn
import Derived.Test.YtkfdjffoljkomaaDoorKeep
import Derived.Test.YtkfdjffoljkomaaDoorBytes
import Derived.Test.YtkfdjffoljkomaaDoorEdC
import Derived.Test.YtkfdjffoljkomaaDoorEdF
import Derived.Test.YtkfdjffoljkomaaDoorEdI
import Derived.Test.YtkfdjffoljkomaaDoorEdK
import Derived.OwnWalkIn
import Derived.TacticsInMore
import Derived.LoopNIn
import Derived.LoopIn
import Derived.Maps.AppendAt
set_option linter.unusedSimpArgs false
set_option linter.unusedVariables false
namespace Go.Proofs.YtkfdjffoljkomaaDoor
open Go.RowKit Go.Shelf

attribute [local go_sem] Oper.semAt_some

theorem infoByte : (Tryd.prog.info? 5).map (fun i => (i.zero, i.size, i.bytes)) = some (some (.int .u8 0), 1, 1) := by kernel_rfl
theorem sizeByte : (Tryd.prog.info? 5).map (·.size) = some 1 := by kernel_rfl

/-- What has been collected, the pieces 'pre' having come. -/
def told_ (pre : List Piece) : List UInt8 := joined (pre.map (·.1))
theorem told_snoc (pre : List Piece) (x : Piece) : told_ (pre ++ [x]) = told_ pre ++ (x.1.1.data.toList ++ x.1.2.s.data.toList) := by
  unfold told_; rw [List.map_append]; exact joined_snoc _ _
theorem told_len (pre : List Piece) : (told_ pre).length ≤ 2000000 * pre.length := by
  induction pre with
  | nil => simp [told_, joined]
  | cons x pre ih =>
    have e : told_ (x :: pre) = (x.1.1.data.toList ++ x.1.2.s.data.toList) ++ told_ pre := by simp [told_, joined]
    obtain ⟨h1, h2⟩ := x.2
    rw [e, List.length_append, List.length_append, bytes_len, bytes_len]
    simp only [List.length_cons]
    omega

set_option maxRecDepth 100000 in
set_option maxHeartbeats 4000000 in
theorem apply_any (s : ByteArray) (A : Option Addr) (c : Nat) (l : List Ed) (b : Addr) (w : World) (hs : s.size ≤ 1000000) (hl : mild l) (hc : l.length ≤ c) (hh : Holds w A l)
    (hg : w.cell? ⟨0, 0, none⟩ = some (.iface 92 (.pointer (some b)))) :
    Calls Tryd.prog 12 #[.string s, .slice A l.length c] w fun e w' => e = .returned (applyOut s l) ∧ Below w.heap.size w w' := by
  have hb0 : Below w.heap.size w (w.alloc (.cells #[.string s, .slice A l.length l.length] 43)) := (Below.refl _ _).alloc (Nat.le_refl _) _
  have hap : IsApplier (w.alloc (.cells #[.string s, .slice A l.length l.length] 43)) w.heap.size s A l.length l.length := ⟨by simp, by simp⟩
  have hg' := (hb0.cell (p := ⟨0, 0, none⟩) (cell_lt hg)).trans hg
  have HC := checked_any w.heap.size s A l.length l _ _ hs hl hap (hh.below hb0) hg'
  have hl0 := hl
  obtain ⟨hl1, hl2⟩ := hl
  have gg := cell_lt hg
  simp only at gg
  have hc' : (l.length : Int) ≤ (c : Int) := by omega
  cases hr : right s.size 0 l with
  | false =>
    rw [checkedOut_no hr] at HC
    have H := Lib.hid HC
    have H2 := Lib.hid hr
    clear HC hr hap hg'
    go_enter Tryd.func12, Tryd.ntmps12
    go_wp2_with (go_at_call 25; refine H.out.mono ?_; rintro e w' ⟨rfl, hb1⟩)
    have hg2 := (hb0.trans (hb1.mono (by simp))).cell (p := ⟨0, 0, none⟩) gg |>.trans hg
    have HT := Lib.hid (told_err b w' hg2)
    clear hg2
    go_wp2_with (go_at_call 26; refine HT.out.mono ?_; rintro e w'' ⟨rfl, rfl⟩)
    go_ret2
    exact ⟨by rw [applyOut_no H2.out]; rfl, hb0.trans (hb1.mono (by simp))⟩
  | true =>
    rw [checkedOut_yes hr] at HC
    have H := Lib.hid HC
    have H2 := Lib.hid hr
    clear HC hr hap hg'
    refine calls_of_wp_marks 3 Tryd.func12 rfl ?_
    simp only [Tryd.ntmps12, List.size_toArray, List.length_cons, List.length_nil, Nat.reduceAdd, Nat.reduceSub, Array.replicate_succ, Array.replicate_zero, List.push_toArray, List.append_toArray, List.nil_append, List.cons_append]
    go_wp2_with (go_at_call 25; refine H.out.mono ?_; rintro e w' ⟨rfl, hb1⟩)
    clear H
    have hba : w'.heap[w.heap.size]? = some (.cells #[.string s, .slice A l.length l.length] 43 (0, 0)) := (hb1.block _ (by simp)).trans (World.alloc_heap_new w _)
    have hlow : Below w.heap.size w w' := hb0.trans (hb1.mono (by simp))
    have hsz : w.heap.size < w'.heap.size := (Array.getElem?_eq_some_iff.1 hba).1
    clear hb0 hb1
    have e1 : (w'.alloc (.cells #[.slice none 0 0] 48)).cell? ⟨w.heap.size, 1, none⟩ = some (.slice A l.length l.length) := (World.cell?_alloc_lt _ _ _ hsz).trans (by simp [World.cell?, hba])
    refine wp_region_head (S := fun W => W.cell? ⟨w.heap.size, 1, none⟩ = some (.slice A l.length l.length)) 7 (by kernel_rfl) (by kernel_rfl) (fun _ _ _ _ _ h => h) e1 ?_
    simp only [List.take_succ_cons, List.take_zero, List.drop_succ_cons, List.drop_zero]
    repeat (refine wpHead_step (v := ?_) rfl ?_ ?_; rotate_left; (focus (rintro w1 d1; go_simp; try with_reducible rfl)); simp only [Act.put, List.setIfInBounds_toArray, List.set_cons_zero, List.set_cons_succ])
    refine wpHead_nil ?_
    refine wpTail_step rfl (fun K hK => ?_)
    go_wp2_with fail
    refine (kept_any _ _ _ _ _).mono ?_
    rintro e w2 ⟨rfl, rfl⟩
    refine hK _ _ (by rw [World.cell?_alloc_lt _ _ _ (by simp; omega), World.cell?_alloc_lt _ _ _ (by simp; omega)]; exact e1) ?_
    clear hK K
    try simp only [Act.put, List.setIfInBounds_toArray, List.set_cons_zero, List.set_cons_succ]
    refine wpTail_nil ?_
    go_wp2
    have bO0 := Boxed.new w' 48 (.slice none 0 0)
    have hz1 : (w'.alloc (.cells #[.slice none 0 0] 48)).drew.heap.size = w'.heap.size + 1 := by simp
    have bT0 := Boxed.new (w'.alloc (.cells #[.slice none 0 0] 48)).drew 60 (.pointer (some ⟨w.heap.size, 0, none⟩))
    have bL0 := Boxed.new ((w'.alloc (.cells #[.slice none 0 0] 48)).drew.alloc (.cells #[.pointer (some ⟨w.heap.size, 0, none⟩)] 60)) 22 (.slice A l.length l.length)
    rw [World.size_alloc, hz1] at bL0
    rw [hz1] at bT0
    rw [hz1]
    obtain ⟨W0, hW0⟩ : ∃ W0, ((w'.alloc (.cells #[.slice none 0 0] 48)).drew.alloc (.cells #[.pointer (some ⟨w.heap.size, 0, none⟩)] 60)).alloc (.cells #[.slice A l.length l.length] 22) = W0 := ⟨_, rfl⟩
    have bO : Boxed W0 w'.heap.size 48 (.slice none 0 0) := by rw [← hW0]; exact ((Boxed.alloc (W := (w'.alloc (.cells #[.slice none 0 0] 48)).drew) bO0 _).alloc _)
    have bT : Boxed W0 (w'.heap.size + 1) 60 (.pointer (some ⟨w.heap.size, 0, none⟩)) := by rw [← hW0]; exact bT0.alloc _
    have bL : Boxed W0 (w'.heap.size + 1 + 1) 22 (.slice A l.length l.length) := by rw [← hW0]; exact bL0
    have hB1 : Below w'.heap.size w' W0 := by rw [← hW0]; exact ((((Below.refl _ w').alloc (Nat.le_refl _) _).drew).alloc (by simp) _).alloc (by simp; omega) _
    have hB0 : Below w.heap.size w W0 := hlow.trans (hB1.mono (by omega))
    have bA := (hB1.block _ hsz).trans hba
    have hsW : w'.heap.size < W0.heap.size := bO.lt
    rw [hW0]
    clear hW0 bO0 bT0 bL0 hz1 hba e1 hlow hB1 hl2
    obtain ⟨i0, hi0, hz0, hz2, hz3⟩ := info_parts infoByte
    have Hl0 := Lib.hid hl0
    clear hl0
    refine wpIn_wide.1 (wpIn_rangeFunc_ownH (n := 3) (F := Fence.wide) rfl (by omega) (gf := 35) (lb := #[.pointer (some ⟨w'.heap.size + 1 + 1, 0, none⟩), .pointer (some ⟨w'.heap.size + 1, 0, none⟩)]) rfl trivial (enters_of Tryd.func35 (by kernel_rfl) rfl)
      (kept1_stops (fun b t => (b = w'.heap.size ∧ t = 48) ∨ t = 5) 2 (by omega) w W0 s A l.length l w.heap.size (w'.heap.size + 1 + 1) (w'.heap.size + 1) 43 _ hs Hl0.out H2.out hh hB0 bL bT bA (by simp) (by simp) (by simp) (by simp))
      keepsTwo_t (keepsTwo_b (by omega)) (Below.refl _ _) (fun _ => rfl)
      (fun pre W => (∃ v, Boxed W w'.heap.size 48 v ∧ W.ownsRow w.heap.size 5 1 v (told_ pre).length (bv (told_ pre)) ∧ True) ∧ Below w.heap.size w W)
      (fun _ _ _ => False)
      (OwnFrom.and (Own.from (holdsRow_own w.heap.size w'.heap.size 48 5 1 (fun pre => (told_ pre).length) (fun pre => bv (told_ pre)) (fun _ _ => True)) _) (ownFrom_below (Nat.le_refl _) (by omega)))
      (fun _ _ _ _ _ hs _ _ => hs)
      ⟨⟨_, bO, World.ownsRow_nil _ _ _ _, trivial⟩, hB0⟩
      (fun x a' W => ∃ Bx, w'.heap.size < Bx ∧ W.heap[Bx]? = some (.cells #[.int .i64 x.1.2.pos, .int .i64 x.1.2.n, .string x.1.2.s] 35 (0, 0)) ∧ a' = { tmps := #[.string s, .slice A l.length c, undef, undef, .string { data := #[] }, .int .i64 0, .pointer (some ⟨w.heap.size, 0, none⟩), .nilIface, .pointer (some ⟨w'.heap.size, 0, none⟩), .string x.1.1, .pointer (some ⟨Bx, 0, none⟩), undef, .string s, .agg #[.string s], .slice A l.length c, .slice A l.length c, .int .i64 l.length, .slice A l.length c, .int .i64 l.length, .slice A l.length l.length, .agg #[.string s, .slice A l.length l.length], .pointer (some ⟨w.heap.size, 0, none⟩), .pointer (some ⟨w.heap.size, 0, none⟩), .nilIface, .nilIface, .bool false, undef, undef, .pointer (some ⟨w.heap.size, 0, none⟩), .pointer (some ⟨w.heap.size, 0, none⟩), .pointer (some ⟨w.heap.size, 0, none⟩), .pointer (some ⟨w.heap.size, 0, none⟩), .pointer (some ⟨w.heap.size, 0, none⟩), .pointer (some ⟨w.heap.size, 1, none⟩), .slice A l.length l.length, .func (.func 35) #[] #[.pointer (some ⟨w'.heap.size + 1 + 1, 0, none⟩), .pointer (some ⟨w'.heap.size + 1, 0, none⟩)], .string x.1.1, .agg #[.int .i64 x.1.2.pos, .int .i64 x.1.2.n, .string x.1.2.s], undef, undef, undef, undef, undef, undef, undef, undef, undef, undef, undef, undef, undef, undef, undef, undef, undef, undef, undef, undef], defers := [] })
      ?hAx ?assign ?body ?done ?stop)
    case hAx =>
      intro x a' _ X Y row hs hg hr
      obtain ⟨Bx, h1, h2, h3⟩ := hs
      exact ⟨Bx, h1, (hg.block Bx (Array.getElem?_eq_some_iff.1 h2).1 (fun e => by obtain ⟨_, o, ho, hc⟩ := hr Bx e.symm; rw [h2] at ho; cases ho; cases hc)).trans h2, h3⟩
    case assign =>
      rintro L pre x W K ⟨⟨v, bv1, hrow, _⟩, hlo⟩ hK
      unfold encPiece
      gi_wp2
      exact hK _ _ ((KeepsOthers.alloc _ _).from _) ⟨(Below.refl _ W).alloc hlo.size _, (KeepsBut.refl _ W).alloc _⟩ ⟨⟨v, bv1.alloc _, hrow.alloc _, trivial⟩, hlo.alloc hlo.size _⟩ ⟨W.heap.size, bv1.lt, World.alloc_heap_new W _, rfl⟩
    case body =>
      rintro L pre x a' W hL _ ⟨⟨v, bv1, hrow, _⟩, hlo⟩ ⟨Bx, hBx, hx, rfl⟩ hlen
      obtain ⟨⟨kp, xe⟩, hx1, hx2⟩ := x
      simp only at hx hx1 hx2 ⊢
      have hlW := hlo.size
      have htl := told_len pre
      have cx : W.cell? ⟨Bx, 2, none⟩ = some (.string xe.s) := by simp [World.cell?, hx]
      have lx : Bx < W.heap.size := (Array.getElem?_eq_some_iff.1 hx).1
      have n1 : (0 : Int) ≤ (kp.size : Int) := by omega
      have n2 : (0 : Int) ≤ (xe.s.size : Int) := by omega
      have hmk : ∀ W' : World, (Instr.makeSlice 48 (.int .i64 ((kp.size : Int) + (xe.s.size : Int))) (.int .i64 ((kp.size : Int) + (xe.s.size : Int)))).run Tryd.prog W' = .ok (.slice (some ⟨W'.heap.size, 0, none⟩) (kp.size + xe.s.size) (kp.size + xe.s.size)) (W'.alloc (.cells (List.replicate (kp.size + xe.s.size) (Value.int .u8 0)).toArray 5)) := fun W' => by
        have h := run_make (P := Tryd.prog) W' 48 5 i0 _ Tryd.underlying48 hi0 hz0 .i64 .i64 ((kp.size : Int) + (xe.s.size : Int)) ((kp.size : Int) + (xe.s.size : Int)) (by omega) (by omega) (by rw [hz3]; omega) (by omega)
        rw [h, hz2]
        have e : ((kp.size : Int) + (xe.s.size : Int)).toNat = kp.size + xe.s.size := by omega
        rw [e, Nat.mul_one]
        congr 3
        apply Array.toList_inj.1
        exact toList_madeCells_one (Value.int .u8 0) _
      generalize hN : List.replicate (kp.size + xe.s.size) (Value.int .u8 0) = zeros at hmk
      have hzl : zeros.length = kp.size + xe.s.size := by rw [← hN]; simp
      have Hzl := Lib.hid hzl
      clear hN hzl
      obtain ⟨dp, hdp, hsl⟩ := run_cut_row (P := Tryd.prog) 48 5 W.heap.size kp.size xe.s.size Tryd.underlying48 sizeByte
      gi_wp2
      obtain ⟨Wm, hWm⟩ : ∃ Wm, W.alloc (.cells zeros.toArray 5) = Wm := ⟨_, rfl⟩
      have hp : Wm.drew.heap[W.heap.size]? = some (.cells zeros.toArray 5 (0, 0)) := by rw [← hWm]; exact World.alloc_heap_new W _
      have cxm : Wm.cell? ⟨Bx, 2, none⟩ = some (.string xe.s) := by rw [← hWm]; exact (World.cell?_alloc_lt _ _ _ lx).trans cx
      have bvm : Boxed Wm w'.heap.size 48 v := by rw [← hWm]; exact bv1.alloc _
      have hrowm : Wm.ownsRow w.heap.size 5 1 v (told_ pre).length (bv (told_ pre)) := by rw [← hWm]; exact hrow.alloc _
      have kom : KeepsOthers W Wm := by rw [← hWm]; exact KeepsOthers.alloc _ _
      have kbm : KeepsBut (fun b t => (b = w'.heap.size ∧ t = 48) ∨ t = 5) W Wm := by rw [← hWm]; exact (KeepsBut.refl _ W).alloc _
      have blm : Below w.heap.size W Wm := by rw [← hWm]; exact (Below.refl _ W).alloc hlW _
      have hneo : v.ownBlock ≠ some W.heap.size := fun e => by have := ownBlock_lt hrow _ e; omega
      have hszm : Wm.heap.size = W.heap.size + 1 := by rw [← hWm]; simp
      have HT5 : ∀ {cs : Array Value} {t : TypeId} {fr : Nat × Nat}, Wm.drew.heap[W.heap.size]? = some (.cells cs t fr) → t ≠ 5 → False := fun {cs t fr} h hne => by rw [hp] at h; cases h; exact hne rfl
      have HTC : ∀ {o : Obj}, Wm.drew.heap[W.heap.size]? = some o → ¬ o.isCells = true → False := fun {o} h hne => by rw [hp] at h; cases h; exact hne rfl
      rw [hWm]
      clear hWm hmk cx
      have hzl := Hzl.out
      have hcp1 := run_copy_str (P := Tryd.prog) Wm.drew 48 9 3 5 (some ⟨W.heap.size, 0, none⟩) W.heap.size 0 (kp.size + xe.s.size) (kp.size + xe.s.size) kp zeros 5 Tryd.underlying48 sizeByte hp (by omega) (fun _ => rfl) (by omega)
      obtain ⟨W2, hW2⟩ : ∃ W2, Wm.drew.setRow W.heap.size (splice zeros 0 (bv kp.data.toList)).toArray = W2 := ⟨_, rfl⟩
      have hp2 : W2.heap[W.heap.size]? = some (.cells (splice zeros 0 (bv kp.data.toList)).toArray 5 (0, 0)) := by rw [← hW2]; exact setRow_heap _ _ _ _ _ _ hp
      have g2 : Wm.drew.grownBy W2 (some W.heap.size) := by rw [← hW2]; exact grownBy_setRow _ _ _
      have hl2' : (splice zeros 0 (bv kp.data.toList)).length = kp.size + xe.s.size := by rw [length_splice _ _ _ (by rw [bv_length, bytes_len]; omega)]; exact hzl
      have hcp2 := run_copy_str (P := Tryd.prog) W2 48 9 3 5 dp W.heap.size kp.size xe.s.size xe.s.size xe.s (splice zeros 0 (bv kp.data.toList)) 5 Tryd.underlying48 sizeByte hp2 (by omega) hdp (by omega)
      rw [splice_two kp.size xe.s.size _ _ zeros (by rw [bv_length, bytes_len]) (by rw [bv_length, bytes_len]) hzl, ← bv_append] at hcp2
      rw [hW2] at hcp1
      obtain ⟨W3, hW3⟩ : ∃ W3, W2.setRow W.heap.size (bv (kp.data.toList ++ xe.s.data.toList)).toArray = W3 := ⟨_, rfl⟩
      have hp3 : W3.heap[W.heap.size]? = some (.cells (bv (kp.data.toList ++ xe.s.data.toList)).toArray 5 (0, 0)) := by rw [← hW3]; exact setRow_heap _ _ _ _ _ _ hp2
      have g3 : W2.grownBy W3 (some W.heap.size) := by rw [← hW3]; exact grownBy_setRow _ _ _
      rw [hW3] at hcp2
      have HZ := Lib.hid hl2'
      clear hW2 hW3 hl2' hzl hp hp2
      have lxm : Bx < Wm.heap.size := by omega
      have cx2 : W2.cell? ⟨Bx, 2, none⟩ = some (.string xe.s) := (g2.cell_far _ lxm (by simp; omega)).trans cxm
      have cx3 : W3.cell? ⟨Bx, 2, none⟩ = some (.string xe.s) := (g3.cell_far _ (by have := g2.size; simp at this; simp; omega) (by simp; omega)).trans cx2
      refine wpIn_region_ord (S := fun w' => w'.cell? ⟨Bx, 2, none⟩ = some (.string xe.s)) [0, 1, 2, 5, 6] [3, 4, 7] (by kernel_rfl) (by kernel_rfl) (by kernel_rfl) (fun _ _ _ _ _ h => h) (fun _ _ h => h) cxm ?_
      simp only [pick, List.filterMap_cons, List.filterMap_nil, List.getElem?_toArray, List.getElem?_cons_zero, List.getElem?_cons_succ]
      repeat (refine wpHead_step (v := ?_) rfl ?_ ?_; rotate_left; (focus (rintro w1 d1; go_simp; try with_reducible rfl)); simp only [Act.put, List.setIfInBounds_toArray, List.set_cons_zero, List.set_cons_succ])
      refine wpHead_nil ?_
      refine wpTail_step rfl (fun K hK => ?_)
      go_wp2_with fail
      refine hK _ _ cx2 ?_
      clear hK K
      try simp only [Act.put, List.setIfInBounds_toArray, List.set_cons_zero, List.set_cons_succ]
      refine wpTail_step rfl (fun K hK => ?_)
      go_wp2_with fail
      refine hK _ _ cx2 ?_
      clear hK K
      try simp only [Act.put, List.setIfInBounds_toArray, List.set_cons_zero, List.set_cons_succ]
      refine wpTail_step rfl (fun K hK => ?_)
      go_wp2_with fail
      refine hK _ _ cx3 ?_
      clear hK K
      try simp only [Act.put, List.setIfInBounds_toArray, List.set_cons_zero, List.set_cons_succ]
      refine wpTail_nil ?_
      have g23 : Wm.drew.grownBy W3 (some W.heap.size) := ⟨g3.os.trans g2.os, g3.tape.trans g2.tape, g3.output.trans g2.output, Nat.le_trans g2.size g3.size, fun k hk hne => (g3.block k (Nat.lt_of_lt_of_le hk g2.size) hne).trans (g2.block k hk hne)⟩
      have hlv := bv1.lt
      have bv3 : Boxed W3 w'.heap.size 48 v := Boxed.kept (W := Wm.drew) bvm g23 (fun e => by injection e; omega)
      have hrow3 : W3.ownsRow w.heap.size 5 1 v (told_ pre).length (bv (told_ pre)) := hrowm.drew.kept g23 (.inr hneo)
      have bl3 : Below w.heap.size W W3 := blm.drew.grown g23 (by simp; omega) (fun k e => by cases e; exact hlW)
      have kb3 : KeepsBut (fun b t => (b = w'.heap.size ∧ t = 48) ∨ t = 5) W W3 := kbm.drew.grown g23 (fun k e cs t fr hk => by
        cases e
        exact .inr (by
          have h3 := g23.size
          by_cases h : t = 5
          · exact h
          · exact (HT5 hk h).elim))
      have hs3 : W.heap.size < W3.heap.size := (Array.getElem?_eq_some_iff.1 hp3).1
      have hc3 := bv3.cell
      have hnews := World.news_of_block hp3
      have hnl : (bv (kp.data.toList ++ xe.s.data.toList)).length = kp.size + xe.s.size := by rw [bv_length, List.length_append, bytes_len, bytes_len]
      have hone := bv_one (kp.data.toList ++ xe.s.data.toList)
      clear g2 g3 cx2 cx3 cxm hcp1 hcp2 hsl hdp bvm hrowm
      gi_wp2_with (gi_at_builtin; refine wpListIn_append_own _ rfl _ _ 48 rfl w.heap.size 5 i0 (.int .u8 0) 1 1 Tryd.underlying48 hi0 hz0 hz2 hz3 rfl (by decide) _ _ _ rfl hrow3 ⟨W.heap.size, 0, none⟩ (kp.size + xe.s.size) (kp.size + xe.s.size) (bv (kp.data.toList ++ xe.s.data.toList)) rfl (by rw [hnl, Nat.mul_one]) hnews hone (by unfold maxLen; omega) (by omega) (by omega) ?_; intro v' w1 hown' hgrow0 _; have hgrow : W3.grownBy w1 v.ownBlock := hgrow0; clear hgrow0; obtain ⟨A', c', rfl⟩ := owns_slice hown'; have hv1 := bv3.kept hgrow (bv3.not_row (by decide) hrow3); have hc1 := hv1.cell; have hf1 := hv1.frozen)
      have hob := ownBlock_ge hrow3
      have kO : KeepsOthers W w1 := ((kom.trans (KeepsOthers.drew Wm)).trans (KeepsOthers.of_grownBy g23 (fun j o ej hj => by cases ej; by_cases hc : o.isCells = true; exact hc; exact (HTC hj hc).elim))).trans (KeepsOthers.of_grownBy hgrow (fun j o ej hj => by
        rcases hrow3.2 with ⟨rfl, _⟩ | ⟨g, cap, cur, rfl, _, hgb, _⟩
        · simp [Value.ownBlock] at ej
        · obtain rfl : g = j := by simpa [Value.ownBlock] using ej
          rw [hgb] at hj; cases hj; rfl))
      have kB : KeepsBut (fun b t => (b = w'.heap.size ∧ t = 48) ∨ t = 5) W w1 := kb3.grown hgrow (fun k e cs t fr hk => by
        rcases hrow3.2 with ⟨rfl, _⟩ | ⟨g, cap, cur, rfl, _, hgb, _⟩
        · simp [Value.ownBlock] at e
        · obtain rfl : g = k := by simpa [Value.ownBlock] using e
          rw [hgb] at hk; cases hk; exact .inr rfl)
      have bL1 : Below w.heap.size W w1 := bl3.grown hgrow (by omega) hob
      have hfin := hown'.kept (grownBy_setCell' w1 w'.heap.size (.slice A' ((told_ pre).length + (kp.size + xe.s.size)) c')) (.inr (hv1.not_row (by decide) hown').symm)
      have bLf : Below w.heap.size W (w1.setCell ⟨w'.heap.size, 0, none⟩ (.slice A' ((told_ pre).length + (kp.size + xe.s.size)) c')) := bL1.setCell (p := ⟨w'.heap.size, 0, none⟩) (by simp; omega) _
      refine ⟨(kO.trans (KeepsOthers.setCell _ _ _)).from _, ⟨bLf, kB.setCell _ _ (fun cs t fr hk => ?_)⟩, ⟨_, hv1.set _, ?_⟩, hlo.trans bLf⟩
      · have hv2 : w1.heap[w'.heap.size]? = some (.cells #[v] 48 (0, 0)) := hv1
        rw [hv2] at hk
        cases hk
        exact .inl ⟨rfl, rfl⟩
      · have e1 : (told_ (pre ++ [⟨(kp, xe), hx1, hx2⟩])) = told_ pre ++ (kp.data.toList ++ xe.s.data.toList) := told_snoc pre _
        have e2 : (told_ (pre ++ [⟨(kp, xe), hx1, hx2⟩])).length = (told_ pre).length + (kp.size + xe.s.size) := by rw [e1, List.length_append, List.length_append, bytes_len, bytes_len]
        rw [e2, e1, bv_append]
        exact hfin
    case done =>
      rintro D ys W hD hS ⟨⟨v, bv1, hrow, _⟩, hlo⟩ hK
      have e : told_ ys = applyL s.data.toList 0 l := by unfold told_; rw [hS]; exact joined_keeps s l 0
      have hc1 := bv1.cell
      have hst := run_string_of_row (P := Tryd.prog) 48 9 5 Tryd.underlying48 Tryd.underlying5 Tryd.underlying9 hrow
      rw [e] at hst
      go_wp2
      refine ⟨by simp, .inl ⟨_, _, rfl, run_takeDeferred hK, ?_⟩⟩
      refine ⟨_, results_tmp2 rfl _ _ _, ?_, ?_⟩
      · rw [applyOut_yes H2.out]; rfl
      · exact hlo.trans (belowK_b (w := w) (Nat.le_refl _) W D _ _ (by omega) hK rfl rfl)
    case stop =>
      rintro D c' pre W _ _ h _
      exact h.elim
end Go.Proofs.YtkfdjffoljkomaaDoor
