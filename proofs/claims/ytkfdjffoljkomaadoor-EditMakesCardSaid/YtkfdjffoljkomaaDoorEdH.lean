/-
  Walk: what takes edits back, by the program.
-/
import Derived.Test.YtkfdjffoljkomaaDoorProg
import Derived.Test.YtkfdjffoljkomaaDoorReg
import Derived.WalkKit
import Derived.WalkSpells
import Derived.WalkLawsBesides
import Derived.Lib.Hide
import Derived.Lib.MinMax
import Derived.Deep.QuietTactic
import Derived.BigQuiet
import Derived.OwnWalk
import Derived.Deep.AppendLies
import Derived.KernelRfl
import Derived.Test.YtkfdjffoljkomaaDoorEdC
import Derived.Test.YtkfdjffoljkomaaDoorEdE
import Derived.Test.YtkfdjffoljkomaaDoorEdI
set_option linter.unusedSimpArgs false
set_option linter.unusedVariables false
namespace Go.Proofs.YtkfdjffoljkomaaDoor
open Go.RowKit

set_option maxRecDepth 100000 in
set_option maxHeartbeats 4000000 in
theorem back_any (s : ByteArray) (A : Option Addr) (c : Nat) (l : List Ed) (b : Addr) (w : World) (hs : s.size ≤ 1000000) (hl : mild l) (hh : Holds w A l)
    (hg : w.cell? ⟨0, 0, none⟩ = some (.iface 92 (.pointer (some b)))) :
    Calls Tryd.prog 13 #[.string s, .slice A l.length c] w fun e w' => backOut s l w' e ∧ Below w.heap.size w w' := by
  have hb0 : Below w.heap.size w (w.alloc (.cells #[.string s, .slice A l.length c] 43)) := (Below.refl _ _).alloc (Nat.le_refl _) _
  have hap : IsApplier (w.alloc (.cells #[.string s, .slice A l.length c] 43)) w.heap.size s A l.length c := ⟨by simp, by simp⟩
  have hg' := (hb0.cell (p := ⟨0, 0, none⟩) (cell_lt hg)).trans hg
  have HC := checked_any w.heap.size s A c l _ _ hs hl hap (hh.below hb0) hg'
  obtain ⟨hl1, hl2⟩ := hl
  obtain ⟨i0, hi0, hz0, hz1, hz2⟩ := info_parts infoEd
  have gg := cell_lt hg
  simp only at gg
  cases hr : right s.size 0 l with
  | false =>
    rw [checkedOut_no hr] at HC
    have H := Lib.hid HC
    have H2 := Lib.hid hr
    clear HC hr hap hg'
    go_enter Tryd.func13, Tryd.ntmps13
    go_wp2
    refine wp_scope_fwd 0 rfl ?_
    go_wp2_with (go_at_call 25; refine H.out.mono ?_; rintro e w' ⟨rfl, hb1⟩)
    go_step3
    refine ⟨rfl, ?_⟩
    have hg2 := (hb0.trans (hb1.mono (by simp))).cell (p := ⟨0, 0, none⟩) gg |>.trans hg
    have HT := Lib.hid (told_err b w' hg2)
    clear hg2
    go_wp2_with (go_at_call 26; refine HT.out.mono ?_; rintro e w'' ⟨rfl, rfl⟩)
    try rw [Exit.noGoto_ret]
    go_ret2
    exact ⟨(backOut_no H2.out).2 rfl, hb0.trans (hb1.mono (by simp))⟩
  | true =>
    rw [checkedOut_yes hr] at HC
    have H := Lib.hid HC
    have H2 := Lib.hid hr
    clear HC hr hap hg'
    go_enter Tryd.func13, Tryd.ntmps13
    go_wp2
    refine wp_scope_fwd 0 rfl ?_
    go_wp2_with (go_at_call 25; refine H.out.mono ?_; rintro e w' ⟨rfl, hb1⟩)
    clear H
    have hbq : Below w.heap.size w w' := hb0.trans (hb1.mono (by simp))
    clear hb0 hb1
    go_loopw [7, 8, 23] (fun o d i wr => ∃ (k v : Nat) (done : List Ed) (mv : Int), k ≤ l.length ∧ i = .int .i64 k ∧ d = .int .i64 mv ∧ v ≤ s.size ∧ -(2000000 * (k : Int)) ≤ mv ∧ mv ≤ 2000000 * (k : Int) ∧ right s.size v (l.drop k) = true ∧ done ++ backL s mv (l.drop k) = backL s 0 l ∧ done.length = k ∧ wr.ownsRow w.heap.size 35 3 o k (edCells done) ∧ Below w.heap.size w wr)
      (fun _ _ i _ => l.length - (intOf i).toNat)
    case atStart => exact ⟨0, 0, [], 0, by omega, rfl, rfl, by omega, by omega, by omega, H2.out, rfl, rfl, World.ownsRow_nil _ _ _ _, hbq⟩
    case round =>
      obtain ⟨k, v, done, mv, hk, rfl, rfl, hv, b1, b2, hri, hap, hdl, hown, hbel⟩ := hrel
      have Hap := Lib.hid hap
      have Hdl := Lib.hid hdl
      clear hap hdl
      by_cases hlt : k < l.length
      · obtain ⟨b, off, rfl, c1, c2, c3⟩ := (hh.below hbel) k l[k] (List.getElem?_eq_getElem hlt)
        obtain ⟨m1, m2, m3, m4, m5⟩ := hl2 k l[k] (List.getElem?_eq_getElem hlt)
        have hd : l.drop k = l[k] :: l.drop (k + 1) := List.drop_eq_getElem_cons hlt
        generalize l[k] = x at *
        rw [hd, right_cons] at hri
        obtain ⟨r1, r2, r3, r4, r5⟩ := hri
        have Hr := Lib.hid r5
        have Hd := Lib.hid hd
        clear hd hl2 r5
        have hbz := hbel.size
        have hob := ownBlock_ge hown
        have hlo : u7.ownBlock ≠ some wr.heap.size := fun e => by have := ownBlock_lt hown _ e; omega
        have q0 : (0 : Int) ≤ x.pos := by omega
        have q1 : x.pos ≤ x.pos + x.n := by omega
        have q2 : x.pos + x.n ≤ (s.size : Int) := by omega
        go_wp2
        have e1 : (wr.alloc (.cells #[.int .i64 x.pos, .int .i64 x.n, .string x.s] 35)).cell? ⟨wr.heap.size, 0, none⟩ = some (.int .i64 x.pos) := by simp
        have e2 : (wr.alloc (.cells #[.int .i64 x.pos, .int .i64 x.n, .string x.s] 35)).cell? ⟨wr.heap.size, 1, none⟩ = some (.int .i64 x.n) := by simp
        have e3 : (wr.alloc (.cells #[.int .i64 x.pos, .int .i64 x.n, .string x.s] 35)).cell? ⟨wr.heap.size, 2, none⟩ = some (.string x.s) := by simp
        generalize hW : wr.alloc (.cells #[.int .i64 x.pos, .int .i64 x.n, .string x.s] 35) = W at *
        have lW : wr.heap.size < W.heap.size := by rw [← hW]; simp
        have lW0 : w.heap.size ≤ W.heap.size := by omega
        have hownW : W.ownsRow w.heap.size 35 3 u7 k (edCells done) := by rw [← hW]; exact hown.alloc _
        have hbW : Below w.heap.size w W := by rw [← hW]; exact hbel.alloc hbz _
        have q3 : (0 : Int) ≤ (x.s.size : Int) := by omega
        clear hW hown hbel
        have s1 : IntKind.i64.wrap (x.pos + mv) = x.pos + mv := IntWalk.i64_in _ (by omega)
        have s2 : IntKind.i64.wrap (x.pos + x.n) = x.pos + x.n := IntWalk.i64_in _ (by omega)
        refine wp_region_head (S := fun w' => w'.cell? ⟨wr.heap.size, 0, none⟩ = some (.int .i64 x.pos) ∧ w'.cell? ⟨wr.heap.size, 1, none⟩ = some (.int .i64 x.n) ∧ w'.cell? ⟨wr.heap.size, 2, none⟩ = some (.string x.s)) 18 (by kernel_rfl) (by kernel_rfl) (fun _ _ _ _ _ h => h) ⟨e1, e2, e3⟩ ?_
        simp only [List.take_succ_cons, List.take_zero, List.drop_succ_cons, List.drop_zero]
        repeat (refine wpHead_step (v := ?_) rfl ?_ ?_; rotate_left; (focus (rintro w1 ⟨d1, d2, d3⟩; go_simp; try with_reducible rfl)); simp only [Act.put, List.setIfInBounds_toArray, List.set_cons_zero, List.set_cons_succ])
        refine wpHead_nil ?_
        have lt1 : wr.heap.size < (World.drew W).heap.size := by simp; omega
        clear s1 s2
        refine wpTail_step rfl (fun K hK => ?_)
        go_wp2_with fail
        refine hK _ _ ⟨(World.cell?_alloc_lt _ _ _ lt1).trans e1, (World.cell?_alloc_lt _ _ _ lt1).trans e2, (World.cell?_alloc_lt _ _ _ lt1).trans e3⟩ ?_
        clear hK K
        try simp only [Act.put, List.setIfInBounds_toArray, List.set_cons_zero, List.set_cons_succ]
        refine wpTail_step rfl (fun K hK => ?_)
        refine wp_append_own _ _ _ 22 rfl w.heap.size 35 i0 _ 3 32 Tryd.underlying22 hi0 hz0 hz1 hz2 rfl (by decide) u7 k (edCells done) rfl ((hownW.alloc _).drew) ⟨W.heap.size, 0, none⟩ 1 1 (Ed.cells (back1 s mv x)) rfl rfl (World.news_of_block (cs := (Ed.cells (back1 s mv x)).toArray) (t := 35) (fr := (0, 0)) (heap_alloc_new W _)) (by simp [Ed.cells, Value.oneCell']) (by unfold maxLen; omega) (by omega) (by simp; omega) (fun v' w1 hown1 hgrow1 _ => ?_)
        have lt2 : ∀ o, (⟨wr.heap.size, o, none⟩ : Addr).block < (World.drew (W.alloc (.cells (Ed.cells (back1 s mv x)).toArray 35))).heap.size := fun o => by simp; omega
        have d1 := (hgrow1.cell_far ⟨wr.heap.size, 0, none⟩ (lt2 _) (Ne.symm hlo)).trans ((World.cell?_alloc_lt _ _ _ lt1).trans e1)
        have d2 := (hgrow1.cell_far ⟨wr.heap.size, 1, none⟩ (lt2 _) (Ne.symm hlo)).trans ((World.cell?_alloc_lt _ _ _ lt1).trans e2)
        have d3 := (hgrow1.cell_far ⟨wr.heap.size, 2, none⟩ (lt2 _) (Ne.symm hlo)).trans ((World.cell?_alloc_lt _ _ _ lt1).trans e3)
        refine hK _ _ ⟨d1, d2, d3⟩ ?_
        clear hK K
        try simp only [Act.put, List.setIfInBounds_toArray, List.set_cons_zero, List.set_cons_succ]
        refine wpTail_step rfl (fun K hK => ?_)
        go_wp2_with fail
        refine hK _ _ ⟨d1, d2, d3⟩ ?_
        clear hK K
        try simp only [Act.put, List.setIfInBounds_toArray, List.set_cons_zero, List.set_cons_succ]
        refine wpTail_nil ?_
        rw [← edCells_one, ← edCells_append] at hown1
        have hb1 : Below w.heap.size w w1 := ((hbW.alloc lW0 _).drew).grown hgrow1 (by simp; omega) hob
        clear e1 e2 e3 hgrow1 hownW hbW lt1 lt2
        go_wp2
        go_roundw
        case rel =>
          have ha := Hap.out
          rw [Hd.out] at ha
          refine ⟨k + 1, (x.pos + x.n).toNat, done ++ [back1 s mv x], mv + x.s.size - x.n, by omega, by go_num, by congr 1; omega, by omega, by omega, by omega, ?_, backL_step ha, by simp [Hdl.out], hown1, hb1⟩
          have := Hr.out
          rwa [Int.toNat_of_nonneg (by omega)]
        case measure => simp [intOf]; omega
      · obtain rfl : k = l.length := by omega
        go_wp2
        simp only [Exit.jump]
        go_ret2
        refine ⟨(backOut_yes H2.out).2 ?_, hbel⟩
        obtain ⟨B, d, rfl, _, hH, hcap⟩ := holds_of_own hown
        have ha := Hap.out
        rw [List.drop_of_length_le (Nat.le_refl _)] at ha
        have : done = backL s 0 l := by rw [← ha]; simp [backL]
        subst this
        exact ⟨B, d, rfl, hH, hcap⟩
end Go.Proofs.YtkfdjffoljkomaaDoor
