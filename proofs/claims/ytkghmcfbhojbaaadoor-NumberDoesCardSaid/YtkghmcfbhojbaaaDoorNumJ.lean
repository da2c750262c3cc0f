/-
  Products of layer 10, checked.
-/
import Derived.Test.YtkghmcfbhojbaaaDoorProg
import Derived.Test.YtkghmcfbhojbaaaDoorReg
import Derived.WalkKit
import Derived.WalkSpells
import Derived.WalkLawsBesides
import Derived.Lib.Hide
import Derived.Lib.MinMax
import Derived.Deep.QuietTactic
import Derived.BigQuiet
import Derived.OwnWalk
import Derived.Deep.AppendLies
import Derived.KernelRfl
import Derived.Test.YtkghmcfbhojbaaaDoorNumI
set_option linter.unusedSimpArgs false
set_option linter.unusedVariables false
namespace Go.Proofs.YtkghmcfbhojbaaaDoor
open Go.RowKit

theorem below_drewN_ {B : Nat} {a w : World} (h : Below B a w) (n : Nat) : Below B a (w.drewN n) := ⟨h.os, h.tape, h.output, h.size, h.block⟩

/-- A word's number, turned where the signs differ. -/
def signed (neg : Bool) (L : Nat) : Int := if neg then wrap64 (-(wrap64 L)) else wrap64 L

set_option maxRecDepth 100000 in
set_option maxHeartbeats 8000000 in
theorem times_walk (x y : Int) (b : Addr) (H L : Nat) (w : World) (hx0 : -9223372036854775808 ≤ x) (hx1 : x ≤ 9223372036854775807) (hy0 : -9223372036854775808 ≤ y) (hy1 : y ≤ 9223372036854775807)
    (hH : x.natAbs * y.natAbs / 18446744073709551616 = H) (hL : x.natAbs * y.natAbs % 18446744073709551616 = L) (hg : OverAt b w) :
    Calls Tryd.prog 33 #[.agg #[.int .i64 x, .int .i64 y]] w fun r w' => r = .returned (mustOut (signed (decide (x < 0) != decide (y < 0)) L) (overV b)
      (decide (H = 0) && (decide (L ≤ 9223372036854775807) || ((decide (x < 0) != decide (y < 0)) && decide (L = 9223372036854775808))))) ∧ Below w.heap.size w w' := by
  have hlt := cell_lt hg
  unfold OverAt at hg
  have HX := Lib.hid (fun w => size_any x w hx0 hx1)
  have HY := Lib.hid (fun w => size_any y w hy0 hy1)
  have HM := Lib.hid (fun w => mul64_any x.natAbs y.natAbs (by omega) (by omega) w)
  rw [hH, hL] at HM
  have hxa : x.natAbs = x.natAbs := rfl
  generalize hA : x.natAbs = A at HX HM
  generalize hB : y.natAbs = B at HY HM
  clear hA hB hH hL hxa
  obtain ⟨p1, hp1⟩ : ∃ p, decide (H = 0) = p := ⟨_, rfl⟩
  obtain ⟨p2, hp2⟩ : ∃ p, decide (L ≤ 9223372036854775807) = p := ⟨_, rfl⟩
  obtain ⟨p3, hp3⟩ : ∃ p, decide (L = 9223372036854775808) = p := ⟨_, rfl⟩
  have d1 : ((H : Int) == 0) = p1 := by rw [← hp1, Bool.eq_iff_iff]; simp only [beq_iff_eq, decide_eq_true_eq]; omega
  have d2 : decide ((L : Int) ≤ 9223372036854775807) = p2 := by rw [← hp2]; simp only [decide_eq_decide]; omega
  have d3 : ((L : Int) == 9223372036854775808) = p3 := by rw [← hp3, Bool.eq_iff_iff]; simp only [beq_iff_eq, decide_eq_true_eq]; omega
  rw [hp1, hp2, hp3]
  clear hp1 hp2 hp3 hx0 hx1 hy0 hy1
  go_enter Tryd.func33, Tryd.ntmps33
  go_wp2_with fail
  go_quiet (first
    | (refine (HX.out _).mono ?_; rintro r w' ⟨rfl, rfl⟩; exact ⟨rfl, _, rfl⟩)
    | (refine (HY.out _).mono ?_; rintro r w' ⟨rfl, rfl⟩; exact ⟨rfl, _, rfl⟩)
    | (refine (HM.out _).mono ?_; rintro r w' ⟨rfl, rfl⟩; exact ⟨rfl, _, rfl⟩))
  clear HX HY HM
  by_cases h1 : x < 0 <;> by_cases h2 : y < 0 <;> cases p1 <;> cases p2 <;> cases p3
  all_goals
    go_wp2_with fail
    refine (must2 _ _ _ _ _ _ _ _ (by simp)).mono ?_
    rintro r w' ⟨rfl, rfl⟩
    go_wp2_with fail
    go_ret2
    exact ⟨by first | (simp [mustOut, signed, overV, h1, h2, IntWalk.i64_left]; done) | (simp [mustOut, signed, overV, h1, h2, IntWalk.i64_left]; omega) | (simp [mustOut, signed, overV, h1, h2, IntWalk.i64_left]; intro h; exact absurd (by omega) h), (below_drewN_ ((Below.refl _ _).alloc (Nat.le_refl _) _) _).alloc (by simp) _⟩
end Go.Proofs.YtkghmcfbhojbaaaDoor
