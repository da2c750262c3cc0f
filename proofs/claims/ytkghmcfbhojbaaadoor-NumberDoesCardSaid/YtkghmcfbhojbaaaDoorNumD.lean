/-
  Residues of layer 10.
-/
import Derived.Test.YtkghmcfbhojbaaaDoorProg
import Derived.Test.YtkghmcfbhojbaaaDoorReg
import Derived.WalkKit
import Derived.WalkSpells
import Derived.WalkLawsBesides
import Derived.Lib.Hide
import Derived.Lib.MinMax
import Derived.Deep.QuietTactic
import Derived.BigQuiet
import Derived.OwnWalk
import Derived.Deep.AppendLies
import Derived.KernelRfl
import Derived.Test.YtkghmcfbhojbaaaDoorNumB
set_option linter.unusedSimpArgs false
set_option linter.unusedVariables false
namespace Go.Proofs.YtkghmcfbhojbaaaDoor
open Go.RowKit

/-- The residue of y by x. -/
def resid (x y : Int) : Int := if x = 0 then y else if x = -1 then 0 else if y.tmod x = 0 ∨ ((y.tmod x < 0) ↔ (x < 0)) then y.tmod x else wrap64 (y.tmod x + x)

set_option maxRecDepth 100000 in
set_option maxHeartbeats 4000000 in
theorem residue_any (x y : Int) (w : World) :
    Calls Tryd.prog 35 #[.agg #[.int .i64 x, .int .i64 y]] w fun r w' => r = .returned (.tuple #[.int .i64 (resid x y), .nilIface]) ∧ Below w.heap.size w w' := by
  go_enter Tryd.func35, Tryd.ntmps35
  by_cases h0 : x = 0
  · subst h0
    go_wp2_with fail
    go_step3
    go_wp2_with fail
    rw [Exit.noGoto_ret]
    go_ret2
    exact ⟨by simp [resid], (Below.refl _ _).alloc (Nat.le_refl _) _⟩
  · by_cases h1 : x = -1
    · subst h1
      go_wp2_with fail
      go_step3
      go_wp2_with fail
      rw [Exit.noGoto_ret]
      go_ret2
      exact ⟨by simp [resid], (Below.refl _ _).alloc (Nat.le_refl _) _⟩
    · have q0 : (x == 0) = false := by simpa using h0
      have q1 : (x == -1) = false := by simpa using h1
      obtain ⟨r, hr⟩ : ∃ r, y.tmod x = r := ⟨_, rfl⟩
      have q2 : (r == 0) = decide (r = 0) := rfl
      by_cases g0 : r = 0 <;> by_cases g1 : r < 0 <;> by_cases g2 : x < 0
      all_goals try (exfalso; omega)
      all_goals
        first
          | have e1 : (decide (r < 0) == decide (x < 0)) = true := by (first | (simp [g1, g2]; done) | (simp; omega))
          | have e1 : (decide (r < 0) == decide (x < 0)) = false := by (first | (simp [g1, g2]; done) | (simp; omega))
        go_wp2_with fail
        go_step3
        go_wp2_with fail
        go_step3
        go_wp2_with fail
        refine wp_loop_rounds 2 ?_
        rw [rounds_succ]
        go_wp2_with fail
        try (rw [rounds_succ]; go_wp2_with fail)
        rw [Exit.noGoto_ret]
        go_ret2
        exact ⟨by first | (simp [resid, h0, h1, hr, g0, g1, g2]; done) | (simp [resid, h0, h1, hr, g0, g1, g2]; omega), (Below.refl _ _).alloc (Nat.le_refl _) _⟩
end Go.Proofs.YtkghmcfbhojbaaaDoor
