/-
  What the rows list: the error 'no edit'; a world for the witness.
-/
import Derived.Test.YtkfdjffoljkomaaDoorCards
import Derived.Test.YtkfdjffoljkomaaDoorTie
import Derived.WalkKit
import Derived.ProofKit
import Derived.OpenShut
import Derived.Deep.DeepHandedRow
import Derived.Stop.LaidErr
import Derived.LaidLaws
import Derived.MakeChecks
import Derived.RowKitTokens
import Derived.Test.YtkfdjffoljkomaaDoorEdArg
import Derived.Test.YtkfdjffoljkomaaDoorEdJ
import Derived.Test.YtkfdjffoljkomaaDoorShut
set_option linter.unusedSimpArgs false
set_option linter.unusedVariables false
namespace Go.Proofs.YtkfdjffoljkomaaDoor
open Go.RowKit

theorem l_own : ownKnob Tryd.prog.godebug = none := by kernel_rfl
theorem l_out : laidOutB Tryd.prog = true := by kernel_rfl
theorem l_err : Tryd.prog.globalNamed "diaeresis/edit.errEdit" = some 0 := by kernel_rfl
theorem l_errType : (Tryd.prog.globals[0]?).map (·.type) = some 45 := by kernel_rfl
theorem l_cellsE : Tryd.prog.cellsOf 117 = 1 := by kernel_rfl
theorem l_star : "*" ++ "errors.errorString" = "*errors.errorString" := by decide
theorem l_row (u : TypeId) (h : Tryd.prog.typeName? 3 u = some "*errors.errorString") : u = 92 :=
  typeName_ptr_named (nm := "errors.errorString") (by rw [l_star]; kernel_rfl) (by kernel_rfl) (by decide) u (by rw [l_star]; exact h)

/-- The rows' list. -/
def laidErr : List (String × DataW Unit) := [("diaeresis/edit.errEdit", Rows.laid_diaeresis_edit_errEdit)]

theorem l_plain : (laidErr.all fun x => x.2.handleName?.isNone) = true := by kernel_rfl

theorem errAt_of_laid {W : World} (h : laidMetH Tryd.prog laidErr W) : ∃ b, ErrAt b W := by
  rw [MakeChecks.laidMetH_plain _ _ _ l_plain] at h
  obtain ⟨a, s, hv, _⟩ := laid_sentinel h l_err l_errType Tryd.underlying45 l_row Tryd.underlying92 Tryd.underlying117 rfl rfl Tryd.underlying9 l_cellsE e_cstring
  exact ⟨a, by unfold ErrAt; simpa using World.var?_cell l_err hv 0⟩

abbrev l_text : ByteArray := { data := #[110, 111, 32, 101, 100, 105, 116] }
noncomputable def l_low : Nat := (World.holding Tryd.prog default ⟨#[], #[], []⟩).heap.size
/-- A world for the witness: the error laid as its initialiser lays it. -/
noncomputable def laidWorld (os : Os) : World :=
  let w0 := World.holding Tryd.prog os ⟨#[.cells #[.string l_text] 117], #[], []⟩
  { w0 with heap := w0.heap.modify 0 fun
      | .cells _ t frozen => .cells #[.iface 92 (.pointer (some ⟨l_low, 0, none⟩))] t frozen
      | o => o }
theorem laid_met (os : Os) (args : Array Value) : laidMet Tryd.prog laidErr ((laidWorld os).forCall (fun _ _ => 0) ⟨#[], args, []⟩).memory :=
  laidMet_of_run (ps := [.cell 0 0, .cell l_low 0]) 8 (by kernel_rfl) (by kernel_rfl) (by kernel_rfl)
theorem laid_metH (os : Os) (args : Array Value) : laidMetH Tryd.prog laidErr ((laidWorld os).forCall (fun _ _ => 0) ⟨#[], args, []⟩).memory := by
  rw [MakeChecks.laidMetH_plain _ _ _ l_plain]
  exact laid_met os args
end Go.Proofs.YtkfdjffoljkomaaDoor
