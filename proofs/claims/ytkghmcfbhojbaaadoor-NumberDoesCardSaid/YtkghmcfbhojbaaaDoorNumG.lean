/-
  Logic of layer 10.
-/
import Derived.Test.YtkghmcfbhojbaaaDoorProg
import Derived.Test.YtkghmcfbhojbaaaDoorReg
import Derived.WalkKit
import Derived.WalkSpells
import Derived.WalkLawsBesides
import Derived.Lib.Hide
import Derived.Lib.MinMax
import Derived.Deep.QuietTactic
import Derived.BigQuiet
import Derived.OwnWalk
import Derived.Deep.AppendLies
import Derived.KernelRfl
import Derived.Test.YtkghmcfbhojbaaaDoorNumB
set_option linter.unusedSimpArgs false
set_option linter.unusedVariables false
namespace Go.Proofs.YtkghmcfbhojbaaaDoor
open Go.RowKit

def gAnd : ByteArray := ⟨#[226, 136, 167]⟩
def gOr : ByteArray := ⟨#[226, 136, 168]⟩

theorem half (x : Int) : (x / 2 == 0) = decide (x = 0 ∨ x = 1) := by
  rw [Bool.eq_iff_iff]
  simp only [beq_iff_eq, decide_eq_true_eq]
  omega

set_option maxRecDepth 100000 in
set_option maxHeartbeats 4000000 in
theorem logic_and (x y : Int) (w : World) :
    Calls Tryd.prog 41 #[.agg #[.int .i64 x, .int .i64 y], .string gAnd] w fun r w' => r = .returned (mustOut (bits .and .i64 x y) (.iface 39 (.agg #[.string gAnd])) (decide (x = 0 ∨ x = 1) && decide (y = 0 ∨ y = 1))) ∧ Below w.heap.size w w' := by
  unfold gAnd
  go_enter Tryd.func41, Tryd.ntmps41
  have e1 := half x
  have e2 := half y
  obtain ⟨p, hp⟩ : ∃ p, (x / 2 == 0) = p := ⟨_, rfl⟩
  obtain ⟨q, hq⟩ : ∃ q, (y / 2 == 0) = q := ⟨_, rfl⟩
  rw [← e1, ← e2, hp, hq]
  clear e1 e2
  cases p <;> cases q
  all_goals
    go_wp2_with fail
    refine (must2 _ _ _ _ _ _ _ _ (by simp)).mono ?_
    rintro r w' ⟨rfl, rfl⟩
    go_wp2_with fail
    go_ret2
    exact ⟨by simp [mustOut], ((Below.refl _ _).alloc (Nat.le_refl _) _).alloc (by simp) _⟩

set_option maxRecDepth 100000 in
set_option maxHeartbeats 4000000 in
theorem logic_or (x y : Int) (w : World) :
    Calls Tryd.prog 41 #[.agg #[.int .i64 x, .int .i64 y], .string gOr] w fun r w' => r = .returned (mustOut (bits .or .i64 x y) (.iface 39 (.agg #[.string gOr])) (decide (x = 0 ∨ x = 1) && decide (y = 0 ∨ y = 1))) ∧ Below w.heap.size w w' := by
  unfold gOr
  go_enter Tryd.func41, Tryd.ntmps41
  have e1 := half x
  have e2 := half y
  obtain ⟨p, hp⟩ : ∃ p, (x / 2 == 0) = p := ⟨_, rfl⟩
  obtain ⟨q, hq⟩ : ∃ q, (y / 2 == 0) = q := ⟨_, rfl⟩
  rw [← e1, ← e2, hp, hq]
  clear e1 e2
  cases p <;> cases q
  all_goals
    go_wp2_with fail
    refine (must2 _ _ _ _ _ _ _ _ (by simp)).mono ?_
    rintro r w' ⟨rfl, rfl⟩
    go_wp2_with fail
    go_ret2
    exact ⟨by simp [mustOut], ((Below.refl _ _).alloc (Nat.le_refl _) _).alloc (by simp) _⟩
end Go.Proofs.YtkghmcfbhojbaaaDoor
