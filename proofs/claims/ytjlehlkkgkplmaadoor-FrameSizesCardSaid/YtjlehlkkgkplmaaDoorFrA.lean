/-
  What is told of the error of layer 19.
-/
import Derived.Test.YtjlehlkkgkplmaaDoorProg
import Derived.Test.YtjlehlkkgkplmaaDoorReg
import Derived.WalkKit
import Derived.WalkSpells
import Derived.WalkLawsBesides
import Derived.Lib.Hide
import Derived.Lib.MinMax
import Derived.Deep.QuietTactic
import Derived.BigQuiet
import Derived.OwnWalk
import Derived.Deep.AppendLies
import Derived.KernelRfl
import Derived.Test.YtjlehlkkgkplmaaDoorFrK
import Derived.Test.YtjlehlkkgkplmaaDoorFrT
set_option linter.unusedSimpArgs false
set_option linter.unusedVariables false
namespace Go.Proofs.YtjlehlkkgkplmaaDoor
open Go.RowKit

/-- The error 'no frame', laid. -/
def ErrF (a : Addr) (w : World) : Prop := w.cell? ⟨0, 0, none⟩ = some (.iface 126 (.pointer (some a)))
theorem ErrF.below {a : Addr} {w w' : World} (h : ErrF a w) (hb : Below w.heap.size w w') : ErrF a w' := by
  unfold ErrF at h ⊢
  exact (hb.cell (p := ⟨0, 0, none⟩) (cell_lt h)).trans h

set_option maxRecDepth 100000 in
set_option maxHeartbeats 4000000 in
theorem told_frame (a : Addr) (w : World) (h : ErrF a w) :
    Calls Tryd.prog 22 #[.iface 126 (.pointer (some a))] w fun r w' => r = .returned (.int .i64 160) ∧ w' = w := by
  unfold ErrF at h
  have l1 := cell_lt h
  go_enter Tryd.func22, Tryd.ntmps22
  go_wp2_with (go_at_call 28; refine (is_same _ _).mono ?_; rintro e w' ⟨rfl, rfl⟩)
  go_ret
  exact ⟨rfl, rfl⟩

set_option maxRecDepth 100000 in
set_option maxHeartbeats 4000000 in
theorem told_none (a : Addr) (w : World) (h : ErrF a w) :
    Calls Tryd.prog 22 #[.nilIface] w fun r w' => r = .returned (.int .i64 0) ∧ w' = w := by
  unfold ErrF at h
  have l1 := cell_lt h
  go_enter Tryd.func22, Tryd.ntmps22
  go_wp2_with (go_at_call 28; refine (is_nil _ _).mono ?_; rintro e w' ⟨rfl, rfl⟩)
  go_ret
  exact ⟨rfl, rfl⟩
end Go.Proofs.YtjlehlkkgkplmaaDoor
