/-
  The walk of 'few'.
-/
import Derived.Test.YtkfdjffoljkomaaDoorProg
import Derived.Test.YtkfdjffoljkomaaDoorReg
import Derived.WalkKit
import Derived.WalkSpells
import Derived.WalkLawsBesides
import Derived.Lib.Hide
import Derived.Lib.MinMax
import Derived.Deep.QuietTactic
import Derived.BigQuiet
import Derived.OwnWalk
import Derived.Deep.AppendLies
import Derived.KernelRfl
import Derived.Test.YtkfdjffoljkomaaDoorEdQ
set_option linter.unusedSimpArgs false
set_option linter.unusedVariables false
namespace Go.Proofs.YtkfdjffoljkomaaDoor
open Go.RowKit

theorem infoEd : (Tryd.prog.info? 35).map (fun i => (i.zero, i.size, i.bytes)) = some (some (.agg #[.int .i64 0, .int .i64 0, .string ByteArray.empty]), 3, 32) := by kernel_rfl

set_option maxRecDepth 100000 in
set_option maxHeartbeats 1000000 in
theorem few_any (A : Option Addr) (c : Nat) (l : List Ed) (w : World) (hl : l.length ≤ maxLen) (hs : ∀ (k : Nat) (x : Ed), l[k]? = some x → x.s.size ≤ maxLen) (hh : Holds w A l) :
    Calls Tryd.prog 11 #[.slice A l.length c] w fun e w' => ∃ B d, e = .returned (.slice B (few l).length d) ∧ Holds w' B (few l) ∧ (few l).length ≤ d ∧ Below w.heap.size w w' := by
  unfold maxLen at hl
  obtain ⟨i0, hi0, hz0, hz1, hz2⟩ := info_parts infoEd
  go_enter Tryd.func11, Tryd.ntmps11
  go_wp2
  go_loopw [3, 4] (fun v i wr => ∃ (k : Nat), k ≤ l.length ∧ k ≤ 20 ∧ i = .int .i64 k ∧ wr.ownsRow w.heap.size 35 3 v k (edCells (fewTo l k)) ∧ Below w.heap.size w wr)
    (fun _ i _ => 20 - (intOf i).toNat)
  case atStart => exact ⟨0, by omega, by omega, rfl, World.ownsRow_nil _ _ _ _, Below.refl _ _⟩
  case round =>
    obtain ⟨k, hk, hk20, rfl, hown, hb⟩ := hrel
    by_cases hlt : k < l.length
    · by_cases h20 : k < 20
      · have hkx := List.getElem?_eq_getElem hlt
        obtain ⟨b, off, rfl, c1, c2, c3⟩ := (hh.below hb) k l[k] hkx
        have hsz := hs k l[k] (List.getElem?_eq_getElem hlt)
        have hsn := fewTo_succ l k hlt
        generalize l[k] = x at *
        have Hsn := Lib.hid hsn
        clear hsn
        unfold maxLen at hsz
        have hm0 : (0 : Int) ≤ min (x.s.size : Int) 300 := by omega
        have hm1 : min (x.s.size : Int) 300 ≤ (x.s.size : Int) := by omega
        have hm2 : (min (x.s.size : Int) 300).toNat = min x.s.size 300 := by omega
        have hlb : b < w.heap.size := by
          obtain ⟨b', off', e, q1, _⟩ := hh k x hkx
          cases e
          exact cell_lt q1
        have hbs := hb.size
        have hob := ownBlock_ge hown
        have hlo : u3.ownBlock ≠ some b := fun e => by have := hob _ e; omega
        go_wp2
        refine wp_region_head (S := fun w' => w'.cell? ⟨b, off + k * 3, none⟩ = some (.int .i64 x.pos) ∧ w'.cell? ⟨b, off + k * 3 + 1, none⟩ = some (.int .i64 x.n) ∧ w'.cell? ⟨b, off + k * 3 + 2, none⟩ = some (.string x.s)) 29 (by kernel_rfl) (by kernel_rfl) (fun _ _ _ _ _ h => h) ⟨c1, c2, c3⟩ ?_
        simp only [List.take_succ_cons, List.take_zero, List.drop_succ_cons, List.drop_zero]
        repeat (refine wpHead_step (v := ?_) rfl ?_ ?_; rotate_left; (focus (rintro w1 ⟨d1, d2, d3⟩; go_simp; try with_reducible rfl)); simp only [Act.put, List.setIfInBounds_toArray, List.set_cons_zero, List.set_cons_succ])
        refine wpHead_nil ?_
        have lt1 : b < (World.drew wr).heap.size := by simp; omega
        refine wpTail_step rfl (fun K hK => ?_)
        go_wp2_with fail
        refine hK _ _ ⟨(World.cell?_alloc_lt _ _ _ lt1).trans c1, (World.cell?_alloc_lt _ _ _ lt1).trans c2, (World.cell?_alloc_lt _ _ _ lt1).trans c3⟩ ?_
        clear hK K
        try simp only [Act.put, List.setIfInBounds_toArray, List.set_cons_zero, List.set_cons_succ]
        refine wpTail_step rfl (fun K hK => ?_)
        refine wp_append_own _ _ _ 22 rfl w.heap.size 35 i0 _ 3 32 Tryd.underlying22 hi0 hz0 hz1 hz2 rfl (by decide) u3 k (edCells (fewTo l k)) rfl ((hown.alloc _).drew) ⟨wr.heap.size, 0, none⟩ 1 1 (Ed.cells (few1 x)) rfl rfl (World.news_of_block (cs := (Ed.cells (few1 x)).toArray) (t := 35) (fr := (0, 0)) (heap_alloc_new wr _)) (by simp [Ed.cells, Value.oneCell']) (by unfold maxLen; omega) (by omega) (by simp; omega) (fun v' w1 hown1 hgrow1 _ => ?_)
        have lt2 : ∀ o, (⟨b, o, none⟩ : Addr).block < (World.drew (wr.alloc (.cells (Ed.cells (few1 x)).toArray 35))).heap.size := fun o => by simp; omega
        have d1 := (hgrow1.cell_far ⟨b, off + k * 3, none⟩ (lt2 _) (Ne.symm hlo)).trans ((World.cell?_alloc_lt _ _ _ lt1).trans c1)
        have d2 := (hgrow1.cell_far ⟨b, off + k * 3 + 1, none⟩ (lt2 _) (Ne.symm hlo)).trans ((World.cell?_alloc_lt _ _ _ lt1).trans c2)
        have d3 := (hgrow1.cell_far ⟨b, off + k * 3 + 2, none⟩ (lt2 _) (Ne.symm hlo)).trans ((World.cell?_alloc_lt _ _ _ lt1).trans c3)
        refine hK _ _ ⟨d1, d2, d3⟩ ?_
        clear hK K
        try simp only [Act.put, List.setIfInBounds_toArray, List.set_cons_zero, List.set_cons_succ]
        refine wpTail_step rfl (fun K hK => ?_)
        go_wp2_with fail
        refine hK _ _ ⟨d1, d2, d3⟩ ?_
        clear hK K
        try simp only [Act.put, List.setIfInBounds_toArray, List.set_cons_zero, List.set_cons_succ]
        refine wpTail_nil ?_
        rw [← edCells_one, ← edCells_append, ← Hsn.out] at hown1
        go_wp2
        go_roundw
        case rel => exact ⟨k + 1, by omega, by omega, by go_num, hown1, ((hb.alloc hb.size _).drew).grown hgrow1 (by have := hb.size; simp; omega) (ownBlock_ge hown)⟩
        case measure => simp [intOf]; omega
      · obtain rfl : k = 20 := by omega
        go_wp2
        go_ret
        obtain ⟨B, d, rfl, _, hH, hcap⟩ := holds_of_own hown
        exact ⟨B, d, rfl, hH, hcap, hb⟩
    · obtain rfl : k = l.length := by omega
      have e := fewTo_all l hk20
      have He := Lib.hid e
      clear e
      go_wp2
      go_ret
      obtain ⟨B, d, rfl, _, hH, hcap⟩ := holds_of_own hown
      rw [He.out] at hH hcap
      exact ⟨B, d, by rw [He.out]; rfl, hH, hcap, hb⟩
end Go.Proofs.YtkfdjffoljkomaaDoor
