/-
  Quotients and residues of layer 10.
-/
import Derived.Test.YtkghmcfbhojbaaaDoorProg
import Derived.Test.YtkghmcfbhojbaaaDoorReg
import Derived.WalkKit
import Derived.WalkSpells
import Derived.WalkLawsBesides
import Derived.Lib.Hide
import Derived.Lib.MinMax
import Derived.Deep.QuietTactic
import Derived.BigQuiet
import Derived.OwnWalk
import Derived.Deep.AppendLies
import Derived.KernelRfl
import Derived.Test.YtkghmcfbhojbaaaDoorNumB
set_option linter.unusedSimpArgs false
set_option linter.unusedVariables false
namespace Go.Proofs.YtkghmcfbhojbaaaDoor
open Go.RowKit

set_option maxRecDepth 100000 in
set_option maxHeartbeats 4000000 in
theorem divide_any (x y : Int) (b d : Addr) (w : World) (hg : OverAt b w) (hd : DivideAt d w) :
    Calls Tryd.prog 34 #[.agg #[.int .i64 x, .int .i64 y]] w fun r w' => r = .returned (if y = 0 then mustOut 1 (overV d) (decide (x = 0)) else if y = -1 then mustOut (IntKind.i64.wrap (-x)) (overV b) (decide (x ≠ -9223372036854775808))
      else mustOut (IntKind.i64.wrap (x.tdiv y)) (overV d) (decide (x.tmod y = 0))) ∧ Below w.heap.size w w' := by
  have hlt := cell_lt hg
  have hlt2 := cell_lt hd
  unfold OverAt at hg
  unfold DivideAt at hd
  go_enter Tryd.func34, Tryd.ntmps34
  by_cases h0 : y = 0
  · subst h0
    by_cases hx : x = 0
    all_goals
      have q : (x == 0) = decide (x = 0) := by simp [hx]
      go_wp2_with fail
      refine (must1 _ _ _ _ _ _ _ (by simp)).mono ?_
      rintro r w' ⟨rfl, rfl⟩
      go_wp2_with fail
      go_ret2
      exact ⟨by simp [mustOut, overV, hx, IntWalk.i64_left], ((Below.refl _ _).alloc (Nat.le_refl _) _).alloc (by simp) _⟩
  · by_cases h1 : y = -1
    · subst h1
      by_cases hx : x = -9223372036854775808
      all_goals
        go_wp2_with fail
        refine (must1 _ _ _ _ _ _ _ (by simp)).mono ?_
        rintro r w' ⟨rfl, rfl⟩
        go_wp2_with fail
        go_ret2
        exact ⟨by simp [mustOut, overV, hx, IntWalk.i64_left], ((Below.refl _ _).alloc (Nat.le_refl _) _).alloc (by simp) _⟩
    · have q0 : (y == 0) = false := by simpa using h0
      have q1 : (y == -1) = false := by simpa using h1
      obtain ⟨m, hm⟩ : ∃ m, (x.tmod y == 0) = m := ⟨_, rfl⟩
      have hmm : decide (x.tmod y = 0) = m := by rw [← hm]; rfl
      cases m
      all_goals
        go_wp2_with fail
        refine wp_region_four (S := fun w' => w'.cell? ⟨w.heap.size, 0, none⟩ = some (.int .i64 x) ∧ w'.cell? ⟨w.heap.size, 1, none⟩ = some (.int .i64 y) ∧ w'.cell? ⟨1, 0, none⟩ = some (.iface 101 (.pointer (some d)))) [0, 1, 2, 3, 4, 5, 6, 7, 8, 9, 10, 11, 12, 13, 14, 15] [16, 17] [18, 19] [20, 21] (by kernel_rfl) (by kernel_rfl) (fun _ _ _ _ _ h => h) ⟨by simp, by simp, (World.cell?_alloc_lt _ _ _ hlt2).trans hd⟩ ?_
        simp only [pick, List.filterMap_cons, List.filterMap_nil, List.getElem?_toArray, List.getElem?_cons_zero, List.getElem?_cons_succ]
        repeat (refine wpHead_step (v := ?_) rfl ?_ ?_; rotate_left; (focus (rintro w1 ⟨c1, c2, c3⟩; go_simp; try with_reducible rfl)); simp only [Act.put, List.setIfInBounds_toArray, List.set_cons_zero, List.set_cons_succ])
        refine wpHead_nil ?_
        have s1 : ∀ o, (((w.alloc (.cells #[.int .i64 x, .int .i64 y] 46)).alloc o).drew).cell? ⟨w.heap.size, 0, none⟩ = some (.int .i64 x) := fun o => by simp
        have s2 : ∀ o, (((w.alloc (.cells #[.int .i64 x, .int .i64 y] 46)).alloc o).drew).cell? ⟨w.heap.size, 1, none⟩ = some (.int .i64 y) := fun o => by simp
        have s3 : ∀ o, (((w.alloc (.cells #[.int .i64 x, .int .i64 y] 46)).alloc o).drew).cell? ⟨1, 0, none⟩ = some (.iface 101 (.pointer (some d))) := fun o => (World.cell?_alloc_lt _ _ _ (by simp; omega)).trans ((World.cell?_alloc_lt _ _ _ hlt2).trans hd)
        have bb : ∀ o, Below w.heap.size w ((w.alloc (.cells #[.int .i64 x, .int .i64 y] 46)).alloc o).drew := fun o => (((Below.refl _ _).alloc (Nat.le_refl _) _).alloc (by simp) _).drew
        refine wpTailK_step rfl (fun K hK => ?_)
        go_wp2_with fail
        refine hK _ _ ⟨s1 _, s2 _, s3 _⟩ ?_
        clear hK K
        try simp only [Act.put, List.setIfInBounds_toArray, List.set_cons_zero, List.set_cons_succ]
        refine wpTailK_step rfl (fun K hK => ?_)
        go_wp2_with fail
        refine (must1w _ _ _ _ _ _ (by simp; rfl)).mono ?_
        rintro r w' ⟨rfl, rfl⟩
        go_wp2_with fail
        refine hK _ _ ⟨s1 _, s2 _, s3 _⟩ ?_
        clear hK K
        try simp only [Act.put, List.setIfInBounds_toArray, List.set_cons_zero, List.set_cons_succ]
        refine wpTailK_nil ?_
        repeat (refine wpHead_step (v := ?_) rfl ?_ ?_; rotate_left; (focus (rintro w1 ⟨c1, c2, c3⟩; go_simp; try with_reducible rfl)); simp only [Act.put, List.setIfInBounds_toArray, List.set_cons_zero, List.set_cons_succ])
        refine wpHead_nil ?_
        refine wpTail_step rfl (fun K hK => ?_)
        go_wp2_with fail
        refine hK _ _ ⟨s1 _, s2 _, s3 _⟩ ?_
        clear hK K
        try simp only [Act.put, List.setIfInBounds_toArray, List.set_cons_zero, List.set_cons_succ]
        refine wpTail_step rfl (fun K hK => ?_)
        go_wp2_with fail
        refine hK _ _ ⟨s1 _, s2 _, s3 _⟩ ?_
        clear hK K
        try simp only [Act.put, List.setIfInBounds_toArray, List.set_cons_zero, List.set_cons_succ]
        refine wpTail_nil ?_
        go_wp2_with fail
        go_ret2
        exact ⟨by simp only [hmm]; simp [mustOut, overV, h0, h1, IntWalk.i64_left], bb _⟩
end Go.Proofs.YtkghmcfbhojbaaaDoor
