/-
  What is told of the errors of layer 10.
-/
import Derived.Test.YtkghmcfbhojbaaaDoorProg
import Derived.Test.YtkghmcfbhojbaaaDoorReg
import Derived.WalkKit
import Derived.WalkSpells
import Derived.WalkLawsBesides
import Derived.Lib.Hide
import Derived.Lib.MinMax
import Derived.Deep.QuietTactic
import Derived.BigQuiet
import Derived.OwnWalk
import Derived.Deep.AppendLies
import Derived.KernelRfl
import Derived.Test.YtkghmcfbhojbaaaDoorNumK
import Derived.Test.YtkghmcfbhojbaaaDoorNumL
set_option linter.unusedSimpArgs false
set_option linter.unusedVariables false
namespace Go.Proofs.YtkghmcfbhojbaaaDoor
open Go.RowKit

set_option maxRecDepth 100000 in
set_option maxHeartbeats 4000000 in
theorem told_nil (a d : Addr) (w : World) (hg : OverAt a w) (hd : DivideAt d w) :
    Calls Tryd.prog 21 #[.nilIface] w fun r w' => r = .returned (.int .i64 0) ∧ Below w.heap.size w w' := by
  have l1 := cell_lt hg
  have l2 := cell_lt hd
  unfold OverAt at hg
  unfold DivideAt at hd
  go_enter Tryd.func21, Tryd.ntmps21
  go_wp2_with (first | (go_at_call 42; refine (is_nil _ _).mono ?_; rintro e w' ⟨rfl, rfl⟩) | (go_at_call 43; refine (as_nil _ _).mono ?_; rintro e w' ⟨rfl, rfl⟩))
  go_ret
  exact ⟨rfl, (Below.refl _ _).alloc (Nat.le_refl _) _⟩

set_option maxRecDepth 100000 in
set_option maxHeartbeats 4000000 in
theorem told_over (a : Addr) (w : World) (hg : OverAt a w) :
    Calls Tryd.prog 21 #[overV a] w fun r w' => r = .returned (.int .i64 100) ∧ Below w.heap.size w w' := by
  have l1 := cell_lt hg
  unfold OverAt at hg
  unfold overV
  go_enter Tryd.func21, Tryd.ntmps21
  go_wp2_with (go_at_call 42; refine (is_same _ _).mono ?_; rintro e w' ⟨rfl, rfl⟩)
  go_ret
  exact ⟨rfl, (Below.refl _ _).alloc (Nat.le_refl _) _⟩
end Go.Proofs.YtkghmcfbhojbaaaDoor
