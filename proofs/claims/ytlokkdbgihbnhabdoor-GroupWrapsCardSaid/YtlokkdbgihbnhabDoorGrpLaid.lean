/-
  The listed variables: the sentinel of package group, errors' own handle; a world for the witness.
-/
import Derived.Test.YtlokkdbgihbnhabDoorCards
import Derived.Test.YtlokkdbgihbnhabDoorTie
import Derived.WalkKit
import Derived.ProofKit
import Derived.OpenShut
import Derived.Deep.DeepHandedRow
import Derived.Stop.LaidErr
import Derived.Stop.LaidTwo
import Derived.LaidLaws
import Derived.LaidHandle
import Derived.MakeChecks
import Derived.RowKitTokens
import Derived.Test.YtlokkdbgihbnhabDoorGrpArg
import Derived.Test.YtlokkdbgihbnhabDoorGrpSh
import Derived.Test.YtlokkdbgihbnhabDoorShut
set_option linter.unusedSimpArgs false
set_option linter.unusedVariables false
namespace Go.Proofs.YtlokkdbgihbnhabDoor
open Go.RowKit

theorem l_own : ownKnob Tryd.prog.godebug = none := by kernel_rfl
theorem l_out : laidOutB Tryd.prog = true := by kernel_rfl
theorem l_err : Tryd.prog.globalNamed "diaeresis/group.errGroup" = some 0 := by kernel_rfl
theorem l_errType : (Tryd.prog.globals[0]?).map (·.type) = some 47 := by kernel_rfl
theorem l_cellsE : Tryd.prog.cellsOf 131 = 1 := by kernel_rfl
theorem l_cellsS : Tryd.prog.cellsOf 9 = 1 := by kernel_rfl
theorem l_star : "*" ++ "errors.errorString" = "*errors.errorString" := by decide
theorem l_row (u : TypeId) (h : Tryd.prog.typeName? 3 u = some "*errors.errorString") : u = 109 :=
  typeName_ptr_named (nm := "errors.errorString") (by rw [l_star]; kernel_rfl) (by kernel_rfl) (by decide) u (by rw [l_star]; exact h)
theorem l_et : Tryd.prog.globalNamed "errors.errorType" = some 1 := by kernel_rfl
theorem l_rt : (Tryd.prog.cutTypes.find? (·.1 == "internal/reflectlite.rtype")).map (·.2) = some 96 := by kernel_rfl
theorem l_oneRow : ((List.range Tryd.prog.types.size).filter fun t => Tryd.prog.rowNamed t [101, 114, 114, 111, 114]) = [47] := by kernel_rfl

/-- The rows' list. -/
def laidN : List (String × DataW Unit) := [("errors.errorType", Rows.laid_errors_errorType), ("diaeresis/group.errGroup", Rows.laid_diaeresis_group_errGroup)]
def laidOne : List (String × DataW Unit) := [("diaeresis/group.errGroup", Rows.laid_diaeresis_group_errGroup)]

theorem handle_of_laid {W : World} (h : laidMetH Tryd.prog laidN W) : W.cell? ⟨1, 0, none⟩ = some (.iface 96 (.agg #[.pointer (some ⟨2, 47, none⟩)])) := by
  have h' : laidMet Tryd.prog laidOne W ∧ handlesMet Tryd.prog [("errors.errorType", Rows.laid_errors_errorType)] W := h
  obtain ⟨name, u, ty, e1, e2, e3, e4, e5⟩ := h'.2 _ (List.mem_singleton.2 rfl)
  have en : name = [101, 114, 114, 111, 114] := (Option.some.inj e1).symm
  subst en
  obtain rfl := Option.some.inj (l_rt.symm.trans e2)
  have hm : ty ∈ (List.range Tryd.prog.types.size).filter fun t => Tryd.prog.rowNamed t [101, 114, 114, 111, 114] := List.mem_filter.2 ⟨List.mem_range.2 e3, e4⟩
  rw [l_oneRow] at hm
  obtain rfl := List.mem_singleton.1 hm
  have hh : typeHandle Tryd.prog 47 = .pointer (some ⟨2, 47, none⟩) := by kernel_rfl
  rw [hh] at e5
  simpa using World.var?_cell l_et e5 0

theorem listed_of_laid {W : World} (h : laidMetH Tryd.prog laidN W) : Listed W := by
  have h' : laidMet Tryd.prog laidOne W ∧ handlesMet Tryd.prog [("errors.errorType", Rows.laid_errors_errorType)] W := h
  obtain ⟨a, s, hv, _⟩ := laid_sentinel h'.1 l_err l_errType Tryd.underlying47 l_row Tryd.underlying109 Tryd.underlying131 rfl rfl Tryd.underlying9 l_cellsE l_cellsS
  exact ⟨handle_of_laid h, a, by simpa using World.var?_cell l_err hv 0⟩

abbrev l_textE : ByteArray := { data := #[110, 111, 32, 109, 97, 116, 99, 104] }
noncomputable def l_low : Nat := (World.holding Tryd.prog default ⟨#[], #[], []⟩).heap.size
def setVar (h : Array Obj) (g : Nat) (v : Value) : Array Obj := h.modify g fun
  | .cells _ t frozen => .cells #[v] t frozen
  | o => o
/-- A world for the witness: both laid as their initialisers lay them. -/
noncomputable def laidWorld (os : Os) : World :=
  let w0 := World.holding Tryd.prog os ⟨#[.cells #[.string l_textE] 131], #[], []⟩
  let h1 := setVar w0.heap 0 (.iface 109 (.pointer (some ⟨l_low, 0, none⟩)))
  let h2 := setVar h1 1 (.iface 96 (.agg #[.pointer (some ⟨2, 47, none⟩)]))
  { w0 with heap := h2 }
theorem laid_met (os : Os) (args : Array Value) : laidMet Tryd.prog laidOne ((laidWorld os).forCall (fun _ _ => 0) ⟨#[], args, []⟩).memory :=
  laidMet_of_run (ps := [.cell 0 0, .cell l_low 0]) 8 (by kernel_rfl) (by kernel_rfl) (by kernel_rfl)
theorem laid_metH (os : Os) (args : Array Value) : laidMetH Tryd.prog laidN ((laidWorld os).forCall (fun _ _ => 0) ⟨#[], args, []⟩).memory :=
  laidMetH_of_parts (laid_met os args) (by kernel_rfl)
end Go.Proofs.YtlokkdbgihbnhabDoor
