/-
  What the rows of this seat list: tables of math/bits and strconv, the error 'no tree'; a world for the witness.
-/
import Derived.Lay
import Derived.Test.YtbcgdkhkljeomaaDoorCards
import Derived.Test.YtbcgdkhkljeomaaDoorTie
import Derived.WalkKit
import Derived.ProofKit
import Derived.OpenShut
import Derived.Deep.DeepHandedRow
import Derived.Stop.LaidErr
import Derived.LaidLaws
import Derived.MakeChecks
import Derived.RowKitTokens
import Derived.Test.YtbcgdkhkljeomaaDoorNdArg
import Derived.Test.YtbcgdkhkljeomaaDoorNdSh
import Derived.Test.YtbcgdkhkljeomaaDoorShut
set_option linter.unusedSimpArgs false
set_option linter.unusedVariables false
namespace Go.Proofs.YtbcgdkhkljeomaaDoor
open Go.RowKit

theorem l_own : ownKnob Tryd.prog.godebug = none := by kernel_rfl
theorem l_out : laidOutB Tryd.prog = true := by kernel_rfl
theorem l_err : Tryd.prog.globalNamed "diaeresis/node.errNode" = some 0 := by kernel_rfl
theorem l_errType : (Tryd.prog.globals[0]?).map (·.type) = some 48 := by kernel_rfl
theorem l_cellsE : Tryd.prog.cellsOf 142 = 1 := by kernel_rfl
theorem l_star : "*" ++ "errors.errorString" = "*errors.errorString" := by decide
theorem l_row (u : TypeId) (h : Tryd.prog.typeName? 3 u = some "*errors.errorString") : u = 119 :=
  typeName_ptr_named (nm := "errors.errorString") (by rw [l_star]; kernel_rfl) (by kernel_rfl) (by decide) u (by rw [l_star]; exact h)

/-- The rows' list. -/
def laidN : List (String × DataW Unit) := [("math/bits.deBruijn32tab", Rows.laid_math_bits_deBruijn32tab), ("math/bits.deBruijn64tab", Rows.laid_math_bits_deBruijn64tab), ("internal/strconv.uint64pow10", Rows.laid_internal_strconv_uint64pow10), ("diaeresis/node.errNode", Rows.laid_diaeresis_node_errNode)]
theorem l_plain : (laidN.all fun x => x.2.handleName?.isNone) = true := by kernel_rfl

theorem laidMet_tail {P : Program} {n : String} {d : DataW Unit} {r : List (String × DataW Unit)} {W : World} (h : laidMet P ((n, d) :: r) W) : laidMet P r W := by
  obtain ⟨ps, ⟨g0, t0, cs0, f0, p0, q0, _, _, _, _, hq, e0⟩, hnd, hrows⟩ := h
  subst e0
  exact ⟨q0, hq, (List.nodup_append.1 hnd).2.1, fun b off hm => hrows b off (List.mem_append.2 (.inr hm))⟩

theorem errAt_of_laid {W : World} (h : laidMetH Tryd.prog laidN W) : ∃ a, errNodeAt a W := by
  rw [MakeChecks.laidMetH_plain _ _ _ l_plain] at h
  obtain ⟨a, s, hv, _⟩ := laid_sentinel (laidMet_tail (laidMet_tail (laidMet_tail h))) l_err l_errType Tryd.underlying48 l_row Tryd.underlying119 Tryd.underlying142 rfl rfl Tryd.underlying9 l_cellsE e_cstring
  exact ⟨a, by unfold errNodeAt; simpa using World.var?_cell l_err hv 0⟩

/-- A world for the witness: all laid as their initialisers lay them. -/
noncomputable def laidWorld (os : Os) : World := World.laidAll Tryd.prog os laidN
theorem laid_met (os : Os) (args : Array Value) : laidMet Tryd.prog laidN ((laidWorld os).forCall (fun _ _ => 0) ⟨#[], args, []⟩).memory :=
  laidMet_laidAll _ (by kernel_rfl) (by kernel_rfl)
end Go.Proofs.YtbcgdkhkljeomaaDoor
