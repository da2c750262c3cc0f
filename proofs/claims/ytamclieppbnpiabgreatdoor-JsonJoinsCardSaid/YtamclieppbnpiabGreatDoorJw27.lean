/-
  A value's first levels: by the program.
-/
import Derived.Test.YtamclieppbnpiabGreatDoorProg
import Derived.Test.YtamclieppbnpiabGreatDoorReg
import Derived.WalkKit
import Derived.WalkSpells
import Derived.WalkLawsBesides
import Derived.Lib.Hide
import Derived.Lib.MinMax
import Derived.Deep.QuietTactic
import Derived.BigQuiet
import Derived.OwnWalk
import Derived.Deep.AppendLies
import Derived.KernelRfl
import Derived.Deep.Cut
import Derived.Deep.CutRange
import Derived.Deep.CutBlock
import Derived.Test.YtamclieppbnpiabGreatDoorJw26
set_option linter.unusedSimpArgs false
set_option linter.unusedVariables false
namespace Go.Proofs.YtamclieppbnpiabGreatDoor
open Go Go.RowKit Go.Maps
open Fz (HoldsS)

theorem take_map_succ {α β : Type} {f : α → β} {l : List α} {j : Nat} {x : α} (h : l[j]? = some x) : (l.take (j + 1)).map f = (l.take j).map f ++ [f x] := by
  rw [List.take_add_one, h, List.map_append]
  rfl
def FewOk (d : Nat) : Prop := ∀ (v : Js) (cs : List Value) (w : World), okJ maxLen v → JC w v cs → Calls Tryz.prog 6 #[.agg cs.toArray, .int .i64 (d : Int)] w fun e w' => Fresh (fewJ d v) w.heap.size e w' ∧ Below w.heap.size w w'
set_option maxRecDepth 100000 in
set_option maxHeartbeats 8000000 in
theorem few_step (d : Nat) (hd : d ≤ 10) (H : ∀ e, d = e + 1 → FewOk e) : FewOk d := by
  intro v cs w hok hJ
  obtain ⟨hv1, hv2, hv3, hv4, hv5, hv6⟩ := okJ_iff.1 hok
  obtain ⟨A, c, B, b, rfl, hS, hc, hb, hL⟩ := JC_iff.1 hJ
  have hb1 := below_new w (.cells #[.int .i64 v.kind, .bool v.yes, .int .i64 v.n, .string v.s, .slice A v.keys.length c, .slice B v.l.length b] tJ)
  have hb2 := below_new (w.alloc (.cells #[.int .i64 v.kind, .bool v.yes, .int .i64 v.n, .string v.s, .slice A v.keys.length c, .slice B v.l.length b] tJ)) (.cells #[.int .i64 0, .bool false, .int .i64 0, .string ⟨#[]⟩, .slice none 0 0, .slice none 0 0] tJ)
  have hx1 := heap_alloc_new w (.cells #[.int .i64 v.kind, .bool v.yes, .int .i64 v.n, .string v.s, .slice A v.keys.length c, .slice B v.l.length b] tJ)
  have hx2 := heap_alloc_new (w.alloc (.cells #[.int .i64 v.kind, .bool v.yes, .int .i64 v.n, .string v.s, .slice A v.keys.length c, .slice B v.l.length b] tJ)) (.cells #[.int .i64 0, .bool false, .int .i64 0, .string ⟨#[]⟩, .slice none 0 0, .slice none 0 0] tJ)
  have hz1 : (w.alloc (.cells #[.int .i64 v.kind, .bool v.yes, .int .i64 v.n, .string v.s, .slice A v.keys.length c, .slice B v.l.length b] tJ)).heap.size = w.heap.size + 1 := by simp
  have hz2 : ((w.alloc (.cells #[.int .i64 v.kind, .bool v.yes, .int .i64 v.n, .string v.s, .slice A v.keys.length c, .slice B v.l.length b] tJ)).alloc (.cells #[.int .i64 0, .bool false, .int .i64 0, .string ⟨#[]⟩, .slice none 0 0, .slice none 0 0] tJ)).heap.size = w.heap.size + 2 := by simp
  rw [hz1] at hb2 hx2
  have hbV := hb1.trans (hb2.mono (by omega))
  have hXP := (hb2.block w.heap.size (by omega)).trans hx1
  have HS := Lib.hid hS
  have HL := Lib.hid hL
  have H5 := Lib.hid hv5
  have H6 := Lib.hid hv6
  clear hb1 hb2 hx1 hz1 hS hL hJ hok hv5 hv6
  go_enter Tryz.func6, Tryz.ntmps6
  go_upto_region 1 with fail
  generalize (w.alloc (.cells #[.int .i64 v.kind, .bool v.yes, .int .i64 v.n, .string v.s, .slice A v.keys.length c, .slice B v.l.length b] tJ)).alloc (.cells #[.int .i64 0, .bool false, .int .i64 0, .string ⟨#[]⟩, .slice none 0 0, .slice none 0 0] tJ) = V at *
  obtain ⟨x0, x1, x2, x3, x4, x5⟩ := six_at hXP
  have HSh := Lib.hid (fun W => short_any v.s W hv2)
  have hbF := (below_drew V).trans ((below_new V.drew (.cells #[.int .i64 v.kind, .bool v.yes, .int .i64 v.n, .string (headS 50 v.s), .slice none 0 0, .slice none 0 0] tJ)).mono (Nat.le_refl _))
  have hF0 : FewAt w (V.drew.alloc (.cells #[.int .i64 v.kind, .bool v.yes, .int .i64 v.n, .string (headS 50 v.s), .slice none 0 0, .slice none 0 0] tJ)) #[.int .i64 v.kind, .bool v.yes, .int .i64 v.n, .string v.s, .slice A v.keys.length c, .slice B v.l.length b] v.kind v.n v.yes (headS 50 v.s) (.slice none 0 0) (.slice none 0 0) [] [] := by
    have hX := heap_alloc_new V.drew (.cells #[.int .i64 v.kind, .bool v.yes, .int .i64 v.n, .string (headS 50 v.s), .slice none 0 0, .slice none 0 0] tJ)
    have e1 : V.drew.heap.size = w.heap.size + 2 := hz2
    rw [e1] at hX
    exact ⟨hbV.trans (hbF.mono (by omega)), (hbF.block _ (by omega)).trans hXP, (hbF.block _ (by omega)).trans hx2, hX, World.ownsRow_nil _ _ _ _, _, OwnsJ.nil _ _, fun _ _ h => h⟩
  have HF0 := Lib.hid hF0
  clear hF0 hbF
  go_cut [5] from 5 to 17 (fun f wx => f = .pointer (some ⟨w.heap.size + 2, 0, none⟩) ∧ FewAt w wx #[.int .i64 v.kind, .bool v.yes, .int .i64 v.n, .string v.s, .slice A v.keys.length c, .slice B v.l.length b] v.kind v.n v.yes (headS 50 v.s) (.slice none 0 0) (.slice none 0 0) [] [])
  case first =>
    obtain ⟨p0, p1, p2, p3, -, -⟩ := six_at HF0.out.par
    have e1 : V.drew.heap.size = w.heap.size + 2 := hz2
    have y0 := ((below_drew V).trans ((below_new V.drew (.cells #[.int .i64 0, .bool false, .int .i64 0, .string ⟨#[]⟩, .slice none 0 0, .slice none 0 0] tJ)).mono (Nat.le_refl _))).cell (p := ⟨w.heap.size, 0, none⟩) (cell_lt x0)
    have y1 := ((below_drew V).trans ((below_new V.drew (.cells #[.int .i64 0, .bool false, .int .i64 0, .string ⟨#[]⟩, .slice none 0 0, .slice none 0 0] tJ)).mono (Nat.le_refl _))).cell (p := ⟨w.heap.size, 1, none⟩) (cell_lt x1)
    have y2 := ((below_drew V).trans ((below_new V.drew (.cells #[.int .i64 0, .bool false, .int .i64 0, .string ⟨#[]⟩, .slice none 0 0, .slice none 0 0] tJ)).mono (Nat.le_refl _))).cell (p := ⟨w.heap.size, 2, none⟩) (cell_lt x2)
    have y3 := ((below_drew V).trans ((below_new V.drew (.cells #[.int .i64 0, .bool false, .int .i64 0, .string ⟨#[]⟩, .slice none 0 0, .slice none 0 0] tJ)).mono (Nat.le_refl _))).cell (p := ⟨w.heap.size, 3, none⟩) (cell_lt x3)
    refine wp_region_alloc (S := fun w' => w'.cell? ⟨w.heap.size, 0, none⟩ = some (.int .i64 v.kind) ∧ w'.cell? ⟨w.heap.size, 1, none⟩ = some (.bool v.yes) ∧ w'.cell? ⟨w.heap.size, 2, none⟩ = some (.int .i64 v.n) ∧ w'.cell? ⟨w.heap.size, 3, none⟩ = some (.string v.s)) [0, 1, 2, 3, 4, 5, 6, 7] 8 10 [9] [11] (by kernel_rfl) (by kernel_rfl) (fun _ _ _ _ _ h => h) ⟨x0, x1, x2, x3⟩ ?_
    simp only [pick, List.filterMap_cons, List.filterMap_nil, List.getElem?_toArray, List.getElem?_cons_zero, List.getElem?_cons_succ]
    repeat (refine wpHead_step (v := ?_) rfl ?_ ?_; rotate_left; (focus (rintro w1 ⟨d0, d1, d2, d3⟩; go_simp; try with_reducible rfl)); simp only [Act.put, List.setIfInBounds_toArray, List.set_cons_zero, List.set_cons_succ])
    refine wpHead_nil ⟨?_, ?_⟩
    · refine wpTailK_step rfl (fun K hK => ?_)
      go_wp2_with fail
      refine (HSh.out V.drew).mono ?_
      rintro e w1 ⟨rfl, hw⟩
      subst w1
      refine hK _ _ ⟨x0, x1, x2, x3⟩ ?_
      clear hK K
      try simp only [Act.put, List.setIfInBounds_toArray, List.set_cons_zero, List.set_cons_succ]
      refine wpTailK_nil ?_
      repeat (refine wpHead_step (v := ?_) rfl ?_ ?_; rotate_left; (focus (rintro w1 ⟨d0, d1, d2, d3⟩; go_simp; try with_reducible rfl)); simp only [Act.put, List.setIfInBounds_toArray, List.set_cons_zero, List.set_cons_succ])
      refine wpHead_nil ?_
      refine wpTail_step rfl (fun K hK => ?_)
      go_wp2_with fail
      refine hK _ _ ⟨y0.trans x0, y1.trans x1, y2.trans x2, y3.trans x3⟩ ?_
      clear hK K
      try simp only [Act.put, List.setIfInBounds_toArray, List.set_cons_zero, List.set_cons_succ]
      refine wpTail_step rfl (fun K hK => ?_)
      go_wp2_with fail
      refine hK _ _ ⟨p0, p1, p2, p3⟩ ?_
      clear hK K
      try simp only [Act.put, List.setIfInBounds_toArray, List.set_cons_zero, List.set_cons_succ]
      refine wpTail_nil ?_
      go_wp2_with fail
      go_meet
      exact ⟨rfl, HF0.out⟩
    · refine wpTailK_step rfl (fun K hK => ?_)
      go_wp2_with fail
      refine hK _ _ ⟨y0.trans x0, y1.trans x1, y2.trans x2, y3.trans x3⟩ ?_
      clear hK K
      try simp only [Act.put, List.setIfInBounds_toArray, List.set_cons_zero, List.set_cons_succ]
      refine wpTailK_step rfl (fun K hK => ?_)
      go_wp2_with fail
      refine (HSh.out _).mono ?_
      rintro e w1 ⟨rfl, hw⟩
      subst w1
      refine hK _ _ ⟨y0.trans x0, y1.trans x1, y2.trans x2, y3.trans x3⟩ ?_
      clear hK K
      try simp only [Act.put, List.setIfInBounds_toArray, List.set_cons_zero, List.set_cons_succ]
      refine wpTailK_nil ?_
      repeat (refine wpHead_step (v := ?_) rfl ?_ ?_; rotate_left; (focus (rintro w1 ⟨d0, d1, d2, d3⟩; go_simp; try with_reducible rfl)); simp only [Act.put, List.setIfInBounds_toArray, List.set_cons_zero, List.set_cons_succ])
      refine wpHead_nil ?_
      refine wpTail_step rfl (fun K hK => ?_)
      go_wp2_with fail
      refine hK _ _ ⟨p0, p1, p2, p3⟩ ?_
      clear hK K
      try simp only [Act.put, List.setIfInBounds_toArray, List.set_cons_zero, List.set_cons_succ]
      refine wpTail_nil ?_
      go_wp2_with fail
      go_meet
      exact ⟨rfl, HF0.out⟩
  case rest =>
  obtain ⟨rfl, hF⟩ := hcut
  have HF := Lib.hid hF
  clear hF HF0 HSh x0 x1 x2 x3 x4 x5 hXP hx2 hbV hz2 V
  go_upto_block 0 with fail
  go_cut [] from 6 to 39 (fun wx => ∃ ks, FewAt w wx #[.int .i64 v.kind, .bool v.yes, .int .i64 v.n, .string v.s, .slice A v.keys.length c, .slice B v.l.length b] v.kind v.n v.yes (headS 50 v.s) ks (.slice none 0 0) ((v.keys.take 6).map (headS 50)) [])
  case first =>
    go_wp2_with fail
    go_loopw [6] (fun i wr => ∃ (j : Nat) (ks : Value), i = .int .i64 j ∧ j ≤ 6 ∧ j ≤ v.keys.length ∧ Hid (FewAt w wr #[.int .i64 v.kind, .bool v.yes, .int .i64 v.n, .string v.s, .slice A v.keys.length c, .slice B v.l.length b] v.kind v.n v.yes (headS 50 v.s) ks (.slice none 0 0) ((v.keys.take j).map (headS 50)) [])) (fun i _ => 6 - (intOf i).toNat)
    case atStart => exact ⟨0, _, rfl, by omega, by omega, HF⟩
    case round =>
      obtain ⟨j, ks, rfl, hj6, hjl, HF1⟩ := hrel
      obtain ⟨x0, x1, x2, x3, x4, x5⟩ := six_at HF1.out.par
      have i0 : (0 : Int) ≤ (j : Int) := by omega
      by_cases h1 : j < v.keys.length
      · have i1 : (j : Int) < (v.keys.length : Int) := by omega
        by_cases h2 : j < 6
        · have i2 : (j : Int) < 6 := by omega
          have g := List.getElem?_eq_getElem h1
          obtain ⟨kb, ko, rfl, hk⟩ := HS.out j _ g
          have hks := H5.out _ (List.getElem_mem h1)
          have hsucc := take_map_succ (f := headS 50) g
          generalize v.keys[j] = key at *
          have lk := cell_lt hk
          simp only at lk
          have hF1 := HF1.out
          have hlow := hF1.low
          have hlt := hF1.lt
          have s0 := (hlow.cell (p := ⟨kb, ko + j, none⟩) lk).trans hk
          have o4 := (six_at hF1.out).2.2.2.2.1
          have hbA := (below_drew wr).trans ((below_new wr.drew (.cells #[.string (headS 50 key)] sK)).mono (Nat.le_refl _))
          have hg0 := heap_alloc_new wr.drew (.cells #[.string (headS 50 key)] sK)
          obtain ⟨ks', w9, hrun, hbl, hsz, hF9⟩ := FewAt.keyed (hF1.below hbA) hg0 (by rw [List.length_map, List.length_take]; omega)
          obtain ⟨A9, c9, rfl, -, -, -⟩ := holdsS_own hF9.kown
          rw [← hsucc, show (List.map (headS 50) (List.take (j + 1) v.keys)).length = j + 1 by rw [List.length_map, List.length_take]; omega] at hF9 hrun
          have f0 := (hbA.cell (p := ⟨w.heap.size + 2, 4, none⟩) (cell_lt o4)).trans o4
          have f1 := (hbA.cell (p := ⟨w.heap.size, 4, none⟩) (cell_lt x4)).trans x4
          have f2 := (hbA.cell (p := ⟨kb, ko + j, none⟩) (cell_lt s0)).trans s0
          have g0 := (cell_same (f := none) (o := 4) (hbl (w.heap.size + 2) (by omega))).trans f0
          have g1 := (cell_same (f := none) (o := 4) (hbl w.heap.size (by omega))).trans f1
          have g2 := (cell_same (f := none) (o := ko + j) (hbl kb (by omega))).trans f2
          have hO9 := (hbl (w.heap.size + 2) (by omega)).trans (hF1.below hbA).out
          have zF := fun j => frozen_of_row w9 _ j _ _ hO9
          have lF := (Array.getElem?_eq_some_iff.1 hO9).1
          have HF9 := Lib.hid hF9
          have HSh := Lib.hid (fun W => short_any key W hks)
          clear hF1 hlow hbA hg0 hbl hsz hF9 hO9 hsucc g hks
          go_upto_region 5 with fail
          refine wp_region_ordz (S := fun w' => w'.cell? ⟨w.heap.size + 2, 4, none⟩ = some ks ∧ w'.cell? ⟨w.heap.size, 4, none⟩ = some (.slice (some ⟨kb, ko, none⟩) v.keys.length c) ∧ w'.cell? ⟨kb, ko + j, none⟩ = some (.string key)) [0, 1, 2, 3, 4, 5, 6] [7, 8, 9, 10, 11] 11 (by kernel_rfl) (by kernel_rfl) (fun _ _ _ _ _ h => h) ⟨o4, x4, s0⟩ ?_
          simp only [pick, List.filterMap_cons, List.filterMap_nil, List.getElem?_toArray, List.getElem?_cons_zero, List.getElem?_cons_succ]
          repeat (refine wpHead_step (v := ?_) rfl ?_ ?_; rotate_left; (focus (rintro w1 ⟨d0, d1, d2⟩; go_simp; try with_reducible rfl)); simp only [Act.put, List.setIfInBounds_toArray, List.set_cons_zero, List.set_cons_succ])
          refine wpHead_nil ?_
          refine wpTailZ_step rfl (fun K hK => ?_)
          go_wp2_with fail
          refine (HSh.out _).mono ?_
          rintro e w1 ⟨rfl, hw⟩
          subst w1
          refine hK _ _ ⟨o4, x4, s0⟩ ?_
          clear hK K
          try simp only [Act.put, List.setIfInBounds_toArray, List.set_cons_zero, List.set_cons_succ]
          refine wpTailZ_step rfl (fun K hK => ?_)
          go_wp2_with fail
          refine hK _ _ ⟨f0, f1, f2⟩ ?_
          clear hK K
          try simp only [Act.put, List.setIfInBounds_toArray, List.set_cons_zero, List.set_cons_succ]
          refine wpTailZ_step rfl (fun K hK => ?_)
          refine Lz.wp_append_run _ _ 22 22 rfl rfl rfl hrun ?_
          refine hK _ _ ⟨g0, g1, g2⟩ ?_
          clear hK K
          try simp only [Act.put, List.setIfInBounds_toArray, List.set_cons_zero, List.set_cons_succ]
          refine wpTailZ_step rfl (fun K hK => ?_)
          go_wp2_with fail
          refine hK _ _ ⟨g0, g1, g2⟩ ?_
          clear hK K
          try simp only [Act.put, List.setIfInBounds_toArray, List.set_cons_zero, List.set_cons_succ]
          refine wpTailZ_last rfl (fun K hK => ?_)
          go_wp2_with fail
          go_roundw
          case rel => exact ⟨j + 1, _, by go_num, by omega, by omega, HF9⟩
          case measure => simp [intOf]; omega
        · obtain rfl : j = 6 := by omega
          go_wp2_with fail
          go_meet
          exact ⟨ks, HF1.out⟩
      · have i1 : ¬ (j : Int) < (v.keys.length : Int) := by omega
        obtain rfl : j = v.keys.length := by omega
        have ht : v.keys.take 6 = v.keys.take v.keys.length := by rw [List.take_of_length_le (by omega), List.take_length]
        have HF2 := Lib.hid (show FewAt w wr #[.int .i64 v.kind, .bool v.yes, .int .i64 v.n, .string v.s, .slice A v.keys.length c, .slice B v.l.length b] v.kind v.n v.yes (headS 50 v.s) ks (.slice none 0 0) ((v.keys.take 6).map (headS 50)) [] by rw [ht]; exact HF1.out)
        clear ht HF1
        go_wp2_with fail
        go_meet
        exact ⟨ks, HF2.out⟩
  case rest =>
  obtain ⟨ks, hF⟩ := hcut
  have HF := Lib.hid hF
  clear hF
  go_upto_block 2 with fail
  go_cut [] from 7 to 67 (fun wx => ∃ ls, FewAt w wx #[.int .i64 v.kind, .bool v.yes, .int .i64 v.n, .string v.s, .slice A v.keys.length c, .slice B v.l.length b] v.kind v.n v.yes (headS 50 v.s) ks ls ((v.keys.take 6).map (headS 50)) (fewL d v))
  case first =>
    cases d with
    | zero =>
      go_wp2_with fail
      refine wp_loop_rounds 1 ?_
      rw [rounds_succ]
      obtain ⟨x0, x1, x2, x3, x4, x5⟩ := six_at HF.out.par
      by_cases h1 : 0 < v.l.length
      · have i1 : (0 : Int) < (v.l.length : Int) := by omega
        go_wp2_with fail
        go_meet
        exact ⟨_, HF.out⟩
      · have i1 : ¬ (0 : Int) < (v.l.length : Int) := by omega
        go_wp2_with fail
        go_meet
        exact ⟨_, HF.out⟩
    | succ e =>
      have HE := Lib.hid (H e rfl)
      have k0 : (0 : Int) < ((e + 1 : Nat) : Int) := by omega
      have k1 : (0 : Int) < (e : Int) + 1 := by omega
      have k2 : wrap64 (((e + 1 : Nat) : Int) - 1) = (e : Int) := by unfold wrap64; omega
      have k3 : wrap64 ((e : Int) + 1 - 1) = (e : Int) := by unfold wrap64; omega
      clear H
      go_wp2_with fail
      go_loopw [7] (fun i wr => ∃ (j : Nat) (ls : Value), i = .int .i64 j ∧ j ≤ 6 ∧ j ≤ v.l.length ∧ Hid (FewAt w wr #[.int .i64 v.kind, .bool v.yes, .int .i64 v.n, .string v.s, .slice A v.keys.length c, .slice B v.l.length b] v.kind v.n v.yes (headS 50 v.s) ks ls ((v.keys.take 6).map (headS 50)) ((v.l.take j).map (fewJ e)))) (fun i _ => 6 - (intOf i).toNat)
      case atStart => exact ⟨0, _, rfl, by omega, by omega, HF⟩
      case round =>
        obtain ⟨j, ls, rfl, hj6, hjl, HF1⟩ := hrel
        obtain ⟨x0, x1, x2, x3, x4, x5⟩ := six_at HF1.out.par
        have i0 : (0 : Int) ≤ (j : Int) := by omega
        by_cases h1 : j < v.l.length
        · have i1 : (j : Int) < (v.l.length : Int) := by omega
          by_cases h2 : j < 6
          · have i2 : (j : Int) < 6 := by omega
            have g := List.getElem?_eq_getElem h1
            obtain ⟨kb, ko, cs, rfl, hk, hJx⟩ := HL.out j _ g
            have hokx := H6.out _ (List.getElem_mem h1)
            have hsucc := take_map_succ (f := fewJ e) g
            generalize v.l[j] = x at *
            have hF1 := HF1.out
            have hlow := hF1.low
            have hlt := hF1.lt
            have hJr := hJx.keep hlow
            obtain ⟨A2, c2, B2, d2, rfl, -⟩ := JC_iff.1 hJx
            have s0 : wr.cell? ⟨kb, ko + j * 6, none⟩ = some (.int .i64 x.kind) := (hlow.cell (p := ⟨kb, ko + j * 6 + 0, none⟩) (cell_lt (hk 0 _ rfl))).trans (hk 0 _ rfl)
            have s1 : wr.cell? ⟨kb, ko + j * 6 + 1, none⟩ = some (.bool x.yes) := (hlow.cell (p := ⟨kb, ko + j * 6 + 1, none⟩) (cell_lt (hk 1 _ rfl))).trans (hk 1 _ rfl)
            have s2 : wr.cell? ⟨kb, ko + j * 6 + 2, none⟩ = some (.int .i64 x.n) := (hlow.cell (p := ⟨kb, ko + j * 6 + 2, none⟩) (cell_lt (hk 2 _ rfl))).trans (hk 2 _ rfl)
            have s3 : wr.cell? ⟨kb, ko + j * 6 + 3, none⟩ = some (.string x.s) := (hlow.cell (p := ⟨kb, ko + j * 6 + 3, none⟩) (cell_lt (hk 3 _ rfl))).trans (hk 3 _ rfl)
            have s4 : wr.cell? ⟨kb, ko + j * 6 + 4, none⟩ = some (.slice A2 x.keys.length c2) := (hlow.cell (p := ⟨kb, ko + j * 6 + 4, none⟩) (cell_lt (hk 4 _ rfl))).trans (hk 4 _ rfl)
            have s5 : wr.cell? ⟨kb, ko + j * 6 + 5, none⟩ = some (.slice B2 x.l.length d2) := (hlow.cell (p := ⟨kb, ko + j * 6 + 5, none⟩) (cell_lt (hk 5 _ rfl))).trans (hk 5 _ rfl)
            have lk := cell_lt (hk 0 _ rfl)
            simp only at lk
            have hS0 : SixC wr kb (ko + j * 6) x A2 c2 B2 d2 := ⟨s0, s1, s2, s3, s4, s5⟩
            have o5 := (six_at hF1.out).2.2.2.2.2
            have HC := Lib.hid (HE.out x _ wr.drew hokx (hJr.keep (below_drew wr)))
            have hdz : wr.drew.heap.size = wr.heap.size := rfl
            have HS0 := Lib.hid hS0
            have HSU := Lib.hid hsucc
            have HG := Lib.hid g
            clear hF1 hlow hJr hJx hk hS0 hokx hsucc g
            go_upto_region 9 with fail
            refine wp_region_ordz (S := fun w' => w'.cell? ⟨w.heap.size + 2, 5, none⟩ = some ls ∧ w'.cell? ⟨w.heap.size, 5, none⟩ = some (.slice (some ⟨kb, ko, none⟩) v.l.length b) ∧ SixC w' kb (ko + j * 6) x A2 c2 B2 d2) [0, 1, 2, 3, 4, 5, 6, 7, 8] [9, 10, 11, 12, 13] 13 (by kernel_rfl) (by kernel_rfl) (fun _ _ _ _ _ h => h) ⟨o5, x5, s0, s1, s2, s3, s4, s5⟩ ?_
            simp only [pick, List.filterMap_cons, List.filterMap_nil, List.getElem?_toArray, List.getElem?_cons_zero, List.getElem?_cons_succ]
            repeat (refine wpHead_step (v := ?_) rfl ?_ ?_; rotate_left; (focus (rintro w1 ⟨q0, q1, r0, r1, r2, r3, r4, r5⟩; go_simp; try with_reducible rfl)); simp only [Act.put, List.setIfInBounds_toArray, List.set_cons_zero, List.set_cons_succ])
            refine wpHead_nil ?_
            refine wpTailZ_step rfl (fun K hK => ?_)
            go_wp2_with fail
            refine HC.out.mono ?_
            rintro e8 w1 ⟨hf, hb1⟩
            obtain ⟨A8, c8, B8, d8, rfl, hJ8⟩ := hf.six
            have hbF := (below_drew wr).trans hb1
            have hbW := below_new w1 (.cells #[.int .i64 (fewJ e x).kind, .bool (fewJ e x).yes, .int .i64 (fewJ e x).n, .string (fewJ e x).s, .slice A8 (fewJ e x).keys.length c8, .slice B8 (fewJ e x).l.length d8] tJ)
            have hbG := hbF.trans (hbW.mono hbF.size)
            have hlt1 := hb1.size
            obtain ⟨ls', w9, hrun, hbl, hsz, hF9⟩ := FewAt.pushed (HF1.out.below hbG) (heap_alloc_new w1 (.cells #[.int .i64 (fewJ e x).kind, .bool (fewJ e x).yes, .int .i64 (fewJ e x).n, .string (fewJ e x).s, .slice A8 (fewJ e x).keys.length c8, .slice B8 (fewJ e x).l.length d8] tJ)) (hJ8.stay (fun b hb => hbW.block b hb.2)) (fun b hb => ⟨by have := hb.1; omega, by have := hb.2; simp; omega⟩)
              (fun k hk hE => by obtain ⟨D, hO, -⟩ := HF1.out.lown; have := (hO.block k hk).2; have := hE.1; omega) (fun k hk hE => by have := (HF1.out.kown.lt k hk).2; have := hE.1; omega) (by rw [List.length_map, List.length_take]; omega)
            obtain ⟨D9, hO9, -⟩ := hF9.lown
            obtain ⟨B9, d9, rfl, -, -⟩ := hO9.holds
            rw [← HSU.out, show (List.map (fewJ e) (List.take (j + 1) v.l)).length = j + 1 by rw [List.length_map, List.length_take]; omega] at hF9 hrun
            have a0 := (hbF.cell (p := ⟨w.heap.size + 2, 5, none⟩) (cell_lt o5)).trans o5
            have a1 := (hbF.cell (p := ⟨w.heap.size, 5, none⟩) (cell_lt x5)).trans x5
            have a2 := HS0.out.keep hbF
            have f0 := (hbG.cell (p := ⟨w.heap.size + 2, 5, none⟩) (cell_lt o5)).trans o5
            have f1 := (hbG.cell (p := ⟨w.heap.size, 5, none⟩) (cell_lt x5)).trans x5
            have f2 := HS0.out.keep hbG
            have g0 := (cell_same (f := none) (o := 5) (hbl (w.heap.size + 2) (by omega))).trans f0
            have g1 := (cell_same (f := none) (o := 5) (hbl w.heap.size (by omega))).trans f1
            have ck : ∀ i, w9.cell? ⟨kb, i, none⟩ = (w1.alloc (.cells #[.int .i64 (fewJ e x).kind, .bool (fewJ e x).yes, .int .i64 (fewJ e x).n, .string (fewJ e x).s, .slice A8 (fewJ e x).keys.length c8, .slice B8 (fewJ e x).l.length d8] tJ)).cell? ⟨kb, i, none⟩ := fun i => cell_same (f := none) (hbl kb (by omega))
            have g2 : SixC w9 kb (ko + j * 6) x A2 c2 B2 d2 := ⟨(ck _).trans f2.1, (ck _).trans f2.2.1, (ck _).trans f2.2.2.1, (ck _).trans f2.2.2.2.1, (ck _).trans f2.2.2.2.2.1, (ck _).trans f2.2.2.2.2.2⟩
            have hX9 := (hbl (w.heap.size + 2) (by omega)).trans (HF1.out.below hbG).out
            have zF := fun j => frozen_of_row w9 _ j _ _ hX9
            have lF := (Array.getElem?_eq_some_iff.1 hX9).1
            have HF9 := Lib.hid hF9
            clear hf hb1 hJ8 hbF hbW hbG hlt1 hbl hsz hF9 hO9 ck hX9
            refine hK _ _ ⟨a0, a1, a2⟩ ?_
            clear hK K
            try simp only [Act.put, List.setIfInBounds_toArray, List.set_cons_zero, List.set_cons_succ]
            refine wpTailZ_step rfl (fun K hK => ?_)
            go_wp2_with fail
            refine hK _ _ ⟨f0, f1, f2⟩ ?_
            clear hK K
            try simp only [Act.put, List.setIfInBounds_toArray, List.set_cons_zero, List.set_cons_succ]
            refine wpTailZ_step rfl (fun K hK => ?_)
            refine Lz.wp_append_run _ _ 23 23 rfl rfl rfl hrun ?_
            refine hK _ _ ⟨g0, g1, g2⟩ ?_
            clear hK K
            try simp only [Act.put, List.setIfInBounds_toArray, List.set_cons_zero, List.set_cons_succ]
            refine wpTailZ_step rfl (fun K hK => ?_)
            go_wp2_with fail
            refine hK _ _ ⟨g0, g1, g2⟩ ?_
            clear hK K
            try simp only [Act.put, List.setIfInBounds_toArray, List.set_cons_zero, List.set_cons_succ]
            refine wpTailZ_last rfl (fun K hK => ?_)
            go_wp2_with fail
            go_roundw
            case rel => exact ⟨j + 1, _, by go_num, by omega, by omega, HF9⟩
            case measure => simp [intOf]; omega
          · obtain rfl : j = 6 := by omega
            go_wp2_with fail
            go_meet
            exact ⟨ls, HF1.out⟩
        · have i1 : ¬ (j : Int) < (v.l.length : Int) := by omega
          obtain rfl : j = v.l.length := by omega
          have ht : v.l.take 6 = v.l.take v.l.length := by rw [List.take_of_length_le (by omega), List.take_length]
          have HF2 := Lib.hid (show FewAt w wr #[.int .i64 v.kind, .bool v.yes, .int .i64 v.n, .string v.s, .slice A v.keys.length c, .slice B v.l.length b] v.kind v.n v.yes (headS 50 v.s) ks ls ((v.keys.take 6).map (headS 50)) (fewL (e + 1) v) by show FewAt w wr _ _ _ _ _ _ _ _ ((v.l.take 6).map (fewJ e)); rw [ht]; exact HF1.out)
          clear ht HF1
          go_wp2_with fail
          go_meet
          exact ⟨ls, HF2.out⟩
  case rest =>
  obtain ⟨ls, hF⟩ := hcut
  obtain ⟨A7, c7, rfl, -, -, -⟩ := holdsS_own hF.kown
  obtain ⟨D7, hO7, -⟩ := hF.lown
  obtain ⟨B7, d7, rfl, -, -⟩ := hO7.holds
  obtain ⟨x0, x1, x2, x3, x4, x5⟩ := six_at hF.out
  obtain ⟨y0, y1, y2, y3, y4, y5⟩ := six_at hF.res
  have z2 := fun j => frozen_of_row wc _ j _ _ hF.res
  have lF := (Array.getElem?_eq_some_iff.1 hF.res).1
  have HF := Lib.hid hF
  have hO7 := Lib.hid hO7
  clear hF
  go_wp2_with fail
  have hR9 := set6 (b0 := .int .i64 v.kind) (b1 := .bool v.yes) (b2 := .int .i64 v.n) (b3 := .string (headS 50 v.s)) (b4 := .slice A7 ((v.keys.take 6).map (headS 50)).length c7) (b5 := .slice B7 (fewL d v).length d7) HF.out.res
  have hS9 := below6 (m := w.heap.size) HF.out.low (Nat.le_succ _) (.int .i64 v.kind) (.bool v.yes) (.int .i64 v.n) (.string (headS 50 v.s)) (.slice A7 ((v.keys.take 6).map (headS 50)).length c7) (.slice B7 (fewL d v).length d7)
  have hJ9 := (JD_mk (kind := v.kind) (n := v.n) (yes := v.yes) (s := headS 50 v.s) HF.out.kown hO7.out).stay (fun b hb => set6_other (W := wc) (X := w.heap.size + 1) (k := b) (by have := hb.1; omega) (.int .i64 v.kind) (.bool v.yes) (.int .i64 v.n) (.string (headS 50 v.s)) (.slice A7 ((v.keys.take 6).map (headS 50)).length c7) (.slice B7 (fewL d v).length d7))
  have hs9 := set6_size (W := wc) (X := w.heap.size + 1) (.int .i64 v.kind) (.bool v.yes) (.int .i64 v.n) (.string (headS 50 v.s)) (.slice A7 ((v.keys.take 6).map (headS 50)).length c7) (.slice B7 (fewL d v).length d7)
  simp only [List.length_map, List.length_take] at hR9 hS9 hJ9 hs9 ⊢
  generalize ((((((wc.setCell ⟨w.heap.size + 1, 0, none⟩ (.int .i64 v.kind)).setCell ⟨w.heap.size + 1, 1, none⟩ (.bool v.yes)).setCell ⟨w.heap.size + 1, 2, none⟩ (.int .i64 v.n)).setCell ⟨w.heap.size + 1, 3, none⟩ (.string (headS 50 v.s))).setCell ⟨w.heap.size + 1, 4, none⟩ (.slice A7 (min 6 v.keys.length) c7)).setCell ⟨w.heap.size + 1, 5, none⟩ (.slice B7 (fewL d v).length d7)) = W9 at *
  obtain ⟨v0, v1, v2, v3, v4, v5⟩ := six_at hR9
  exact bodyPost_ret (v := .agg #[.int .i64 v.kind, .bool v.yes, .int .i64 v.n, .string (headS 50 v.s), .slice A7 (min 6 v.keys.length) c7, .slice B7 (fewL d v).length d7]) (by simp [results, Tryz.results6, go_sem, v0, v1, v2, v3, v4, v5]) rfl
    ⟨⟨_, rfl, by rw [few_mk]; exact hJ9.mono (fun b hb => ⟨by omega, by omega⟩)⟩, hS9⟩
theorem few_any : ∀ d, d ≤ 10 → FewOk d := by
  intro d
  induction d with
  | zero => intro hd; exact few_step 0 hd (fun e h => by omega)
  | succ e ih => intro hd; exact few_step (e + 1) hd (fun x h => by have e1 : x = e := (by omega); rw [e1]; exact ih (by omega))
end Go.Proofs.YtamclieppbnpiabGreatDoor
