/-
  The greater one, the lesser one, comparing, logic of layer 10.
-/
import Derived.Test.YtkghmcfbhojbaaaDoorProg
import Derived.Test.YtkghmcfbhojbaaaDoorReg
import Derived.WalkKit
import Derived.WalkSpells
import Derived.WalkLawsBesides
import Derived.Lib.Hide
import Derived.Lib.MinMax
import Derived.Deep.QuietTactic
import Derived.BigQuiet
import Derived.OwnWalk
import Derived.Deep.AppendLies
import Derived.KernelRfl
import Derived.Test.YtkghmcfbhojbaaaDoorNumB
set_option linter.unusedSimpArgs false
set_option linter.unusedVariables false
namespace Go.Proofs.YtkghmcfbhojbaaaDoor
open Go.RowKit

set_option maxRecDepth 100000 in
set_option maxHeartbeats 4000000 in
theorem hi_any (x y : Int) (w : World) :
    Calls Tryd.prog 36 #[.agg #[.int .i64 x, .int .i64 y]] w fun r w' => r = .returned (.tuple #[.int .i64 (max x y), .nilIface]) ∧ Below w.heap.size w w' := by
  go_enter Tryd.func36, Tryd.ntmps36
  go_wp2_with fail
  go_ret2
  exact ⟨rfl, (Below.refl _ _).alloc (Nat.le_refl _) _⟩

set_option maxRecDepth 100000 in
set_option maxHeartbeats 4000000 in
theorem lo_any (x y : Int) (w : World) :
    Calls Tryd.prog 37 #[.agg #[.int .i64 x, .int .i64 y]] w fun r w' => r = .returned (.tuple #[.int .i64 (min x y), .nilIface]) ∧ Below w.heap.size w w' := by
  go_enter Tryd.func37, Tryd.ntmps37
  go_wp2_with fail
  go_ret2
  exact ⟨rfl, (Below.refl _ _).alloc (Nat.le_refl _) _⟩
end Go.Proofs.YtkghmcfbhojbaaaDoor
