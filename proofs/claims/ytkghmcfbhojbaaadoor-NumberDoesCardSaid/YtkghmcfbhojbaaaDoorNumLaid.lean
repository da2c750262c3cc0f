/-
  What the rows list: a type's handle, two errors; a world for the witness.
-/
import Derived.Test.YtkghmcfbhojbaaaDoorCards
import Derived.Test.YtkghmcfbhojbaaaDoorTie
import Derived.WalkKit
import Derived.ProofKit
import Derived.OpenShut
import Derived.Deep.DeepHandedRow
import Derived.Stop.LaidErr
import Derived.Stop.LaidTwo
import Derived.LaidLaws
import Derived.LaidHandle
import Derived.MakeChecks
import Derived.RowKitTokens
import Derived.Test.YtkghmcfbhojbaaaDoorNumN
import Derived.Test.YtkghmcfbhojbaaaDoorShut
set_option linter.unusedSimpArgs false
set_option linter.unusedVariables false
namespace Go.Proofs.YtkghmcfbhojbaaaDoor
open Go.RowKit

theorem l_own : ownKnob Tryd.prog.godebug = none := by kernel_rfl
theorem l_out : laidOutB Tryd.prog = true := by kernel_rfl
theorem l_over : Tryd.prog.globalNamed "diaeresis/number.errOver" = some 0 := by kernel_rfl
theorem l_divide : Tryd.prog.globalNamed "diaeresis/number.errDivide" = some 1 := by kernel_rfl
theorem l_overType : (Tryd.prog.globals[0]?).map (·.type) = some 41 := by kernel_rfl
theorem l_divideType : (Tryd.prog.globals[1]?).map (·.type) = some 41 := by kernel_rfl
theorem l_cellsE : Tryd.prog.cellsOf 123 = 1 := by kernel_rfl
theorem l_cellsS : Tryd.prog.cellsOf 9 = 1 := by kernel_rfl
theorem l_star : "*" ++ "errors.errorString" = "*errors.errorString" := by decide
theorem l_row (u : TypeId) (h : Tryd.prog.typeName? 3 u = some "*errors.errorString") : u = 101 :=
  typeName_ptr_named (nm := "errors.errorString") (by rw [l_star]; kernel_rfl) (by kernel_rfl) (by decide) u (by rw [l_star]; exact h)
theorem l_et : Tryd.prog.globalNamed "errors.errorType" = some 2 := by kernel_rfl
theorem l_rt : (Tryd.prog.cutTypes.find? (·.1 == "internal/reflectlite.rtype")).map (·.2) = some 86 := by kernel_rfl
theorem l_oneRow : ((List.range Tryd.prog.types.size).filter fun t => Tryd.prog.rowNamed t [101, 114, 114, 111, 114]) = [41] := by kernel_rfl

/-- The rows' list. -/
def laidN : List (String × DataW Unit) := [("errors.errorType", Rows.laid_errors_errorType), ("diaeresis/number.errOver", Rows.laid_diaeresis_number_errOver), ("diaeresis/number.errDivide", Rows.laid_diaeresis_number_errDivide)]
def laidTwo : List (String × DataW Unit) := [("diaeresis/number.errOver", Rows.laid_diaeresis_number_errOver), ("diaeresis/number.errDivide", Rows.laid_diaeresis_number_errDivide)]

theorem handle_of_laid {W : World} (h : laidMetH Tryd.prog laidN W) : W.cell? ⟨2, 0, none⟩ = some (.iface 86 (.agg #[.pointer (some ⟨3, 41, none⟩)])) := by
  have h' : laidMet Tryd.prog laidTwo W ∧ handlesMet Tryd.prog [("errors.errorType", Rows.laid_errors_errorType)] W := h
  obtain ⟨name, u, ty, e1, e2, e3, e4, e5⟩ := h'.2 _ (List.mem_singleton.2 rfl)
  have en : name = [101, 114, 114, 111, 114] := (Option.some.inj e1).symm
  subst en
  obtain rfl := Option.some.inj (l_rt.symm.trans e2)
  have hm : ty ∈ (List.range Tryd.prog.types.size).filter fun t => Tryd.prog.rowNamed t [101, 114, 114, 111, 114] := List.mem_filter.2 ⟨List.mem_range.2 e3, e4⟩
  rw [l_oneRow] at hm
  obtain rfl := List.mem_singleton.1 hm
  have hh : typeHandle Tryd.prog 41 = .pointer (some ⟨3, 41, none⟩) := by kernel_rfl
  rw [hh] at e5
  simpa using World.var?_cell l_et e5 0

theorem laid10_of_laid {W : World} (h : laidMetH Tryd.prog laidN W) : ∃ a d, Laid10 a d W := by
  have h' : laidMet Tryd.prog laidTwo W ∧ handlesMet Tryd.prog [("errors.errorType", Rows.laid_errors_errorType)] W := h
  obtain ⟨a, d, _, _, c0, c1, t0, t1, v0, v1, _, _, _, _, _, _, hne, h0, h1⟩ := laid_sentinels2 h'.1 l_over l_overType l_divide l_divideType Tryd.underlying41 l_row Tryd.underlying101 Tryd.underlying123 rfl rfl Tryd.underlying9 l_cellsE l_cellsS
  exact ⟨a, d, by unfold OverAt; simpa using World.var?_cell l_over v0 0, by unfold DivideAt; simpa using World.var?_cell l_divide v1 0, hne, ⟨_, _, h0⟩, ⟨_, _, h1⟩, handle_of_laid h⟩

abbrev l_textA : ByteArray := { data := #[116, 111, 111, 32, 103, 114, 101, 97, 116] }
abbrev l_textD : ByteArray := { data := #[110, 111, 32, 113, 117, 111, 116, 105, 101, 110, 116] }
noncomputable def l_low : Nat := (World.holding Tryd.prog default ⟨#[], #[], []⟩).heap.size
def setVar (h : Array Obj) (g : Nat) (v : Value) : Array Obj := h.modify g fun
  | .cells _ t frozen => .cells #[v] t frozen
  | o => o
/-- A world for the witness: all three laid as their initialisers lay them. -/
noncomputable def laidWorld (os : Os) : World :=
  let w0 := World.holding Tryd.prog os ⟨#[.cells #[.string l_textA] 123, .cells #[.string l_textD] 123], #[], []⟩
  let h1 := setVar w0.heap 0 (.iface 101 (.pointer (some ⟨l_low, 0, none⟩)))
  let h2 := setVar h1 1 (.iface 101 (.pointer (some ⟨l_low + 1, 0, none⟩)))
  let h3 := setVar h2 2 (.iface 86 (.agg #[.pointer (some ⟨3, 41, none⟩)]))
  { w0 with heap := h3 }
theorem laid_met (os : Os) (args : Array Value) : laidMet Tryd.prog laidTwo ((laidWorld os).forCall (fun _ _ => 0) ⟨#[], args, []⟩).memory :=
  laidMet_of_run (ps := [.cell 0 0, .cell l_low 0, .cell 1 0, .cell (l_low + 1) 0]) 8 (by kernel_rfl) (by kernel_rfl) (by kernel_rfl)
theorem laid_metH (os : Os) (args : Array Value) : laidMetH Tryd.prog laidN ((laidWorld os).forCall (fun _ _ => 0) ⟨#[], args, []⟩).memory :=
  laidMetH_of_parts (laid_met os args) (by kernel_rfl)
theorem fits_of_wf {n : Int} (h : (Lit.int .i64 n).wf = true) : fits n = true := by
  simp only [Lit.wf, IntKind.min, IntKind.max, IntKind.signed, IntKind.bits, Bool.and_eq_true, decide_eq_true_eq, if_true] at h
  rw [fits_iff]
  omega
end Go.Proofs.YtkghmcfbhojbaaaDoor
