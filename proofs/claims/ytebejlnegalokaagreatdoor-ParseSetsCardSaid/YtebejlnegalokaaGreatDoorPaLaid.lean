/-
  What the rows of this seat list: tables, errors' own handle, three sentinels; a world for the witness.
-/
import Derived.Lay
import Derived.Test.YtebejlnegalokaaGreatDoorCards
import Derived.Test.YtebejlnegalokaaGreatDoorTie
import Derived.WalkKit
import Derived.ProofKit
import Derived.OpenShut
import Derived.Deep.DeepHandedRow
import Derived.Stop.LaidErr
import Derived.Stop.LaidTwo
import Derived.LaidLaws
import Derived.LaidHandle
import Derived.MakeChecks
import Derived.RowKitTokens
import Derived.Test.YtebejlnegalokaaGreatDoorPaArg
import Derived.Test.YtebejlnegalokaaGreatDoorShut
set_option linter.unusedSimpArgs false
set_option linter.unusedVariables false
namespace Go.Proofs.YtebejlnegalokaaGreatDoor
open Go.RowKit

theorem l_own : ownKnob Tryz.prog.godebug = none := by kernel_rfl
theorem l_out : laidOutB Tryz.prog = true := by kernel_rfl
theorem l_gG : Tryz.prog.globalNamed "diaeresis/group.errGroup" = some 3 := by kernel_rfl
theorem l_gN : Tryz.prog.globalNamed "diaeresis/node.errNode" = some 0 := by kernel_rfl
theorem l_gS : Tryz.prog.globalNamed "diaeresis/parse.errSyntax" = some 1 := by kernel_rfl
theorem l_tG : (Tryz.prog.globals[3]?).map (·.type) = some 67 := by kernel_rfl
theorem l_tN : (Tryz.prog.globals[0]?).map (·.type) = some 67 := by kernel_rfl
theorem l_tS : (Tryz.prog.globals[1]?).map (·.type) = some 67 := by kernel_rfl
theorem l_cellsE : Tryz.prog.cellsOf 235 = 1 := by kernel_rfl
theorem l_cellsS : Tryz.prog.cellsOf 9 = 1 := by kernel_rfl
theorem l_star : "*" ++ "errors.errorString" = "*errors.errorString" := by decide
theorem l_row (u : TypeId) (h : Tryz.prog.typeName? 3 u = some "*errors.errorString") : u = 216 :=
  typeName_ptr_named (nm := "errors.errorString") (by rw [l_star]; kernel_rfl) (by kernel_rfl) (by decide) u (by rw [l_star]; exact h)
theorem l_et : Tryz.prog.globalNamed "errors.errorType" = some 2 := by kernel_rfl
theorem l_rt : (Tryz.prog.cutTypes.find? (·.1 == "internal/reflectlite.rtype")).map (·.2) = some 163 := by kernel_rfl
theorem l_oneRow : ((List.range Tryz.prog.types.size).filter fun t => Tryz.prog.rowNamed t [101, 114, 114, 111, 114]) = [67] := by kernel_rfl

/-- The rows' list. -/
def laidN : List (String × DataW Unit) := [("math/bits.deBruijn32tab", Rows.laid_math_bits_deBruijn32tab), ("math/bits.deBruijn64tab", Rows.laid_math_bits_deBruijn64tab), ("internal/strconv.uint64pow10", Rows.laid_internal_strconv_uint64pow10), ("errors.errorType", Rows.laid_errors_errorType), ("diaeresis/group.errGroup", Rows.laid_diaeresis_group_errGroup), ("diaeresis/node.errNode", Rows.laid_diaeresis_node_errNode), ("diaeresis/parse.errSyntax", Rows.laid_diaeresis_parse_errSyntax)]
def laidOne : List (String × DataW Unit) := [("math/bits.deBruijn32tab", Rows.laid_math_bits_deBruijn32tab), ("math/bits.deBruijn64tab", Rows.laid_math_bits_deBruijn64tab), ("internal/strconv.uint64pow10", Rows.laid_internal_strconv_uint64pow10), ("diaeresis/group.errGroup", Rows.laid_diaeresis_group_errGroup), ("diaeresis/node.errNode", Rows.laid_diaeresis_node_errNode), ("diaeresis/parse.errSyntax", Rows.laid_diaeresis_parse_errSyntax)]
theorem laidMet_tail {P : Program} {n : String} {d : DataW Unit} {r : List (String × DataW Unit)} {W : World} (h : laidMet P ((n, d) :: r) W) : laidMet P r W := by
  obtain ⟨ps, ⟨g0, t0, cs0, f0, p0, q0, _, _, _, _, hq, e0⟩, hnd, hrows⟩ := h
  subst e0
  exact ⟨q0, hq, (List.nodup_append.1 hnd).2.1, fun b off hm => hrows b off (List.mem_append.2 (.inr hm))⟩
theorem parts_of_laid {W : World} (h : laidMetH Tryz.prog laidN W) : laidMet Tryz.prog laidOne W ∧ handlesMet Tryz.prog [("errors.errorType", Rows.laid_errors_errorType)] W := h
theorem handle_of_laid {W : World} (h : laidMetH Tryz.prog laidN W) : W.cell? ⟨2, 0, none⟩ = some (.iface 163 (.agg #[.pointer (some ⟨8, 67, none⟩)])) := by
  obtain ⟨name, u, ty, e1, e2, e3, e4, e5⟩ := (parts_of_laid h).2 _ (List.mem_singleton.2 rfl)
  have en : name = [101, 114, 114, 111, 114] := (Option.some.inj e1).symm
  subst en
  obtain rfl := Option.some.inj (l_rt.symm.trans e2)
  have hm : ty ∈ (List.range Tryz.prog.types.size).filter fun t => Tryz.prog.rowNamed t [101, 114, 114, 111, 114] := List.mem_filter.2 ⟨List.mem_range.2 e3, e4⟩
  rw [l_oneRow] at hm
  obtain rfl := List.mem_singleton.1 hm
  have hh : typeHandle Tryz.prog 67 = .pointer (some ⟨8, 67, none⟩) := by kernel_rfl
  rw [hh] at e5
  simpa using World.var?_cell l_et e5 0
theorem wok_of_laid {W : World} (h : laidMetH Tryz.prog laidN W) : ∃ a b, WOk a b W := by
  have h3 := laidMet_tail (laidMet_tail (laidMet_tail (parts_of_laid h).1))
  have h4 := laidMet_tail h3
  have h5 := laidMet_tail h4
  obtain ⟨a3, _, v3, _⟩ := laid_sentinel h3 l_gG l_tG Tryz.underlying67 l_row Tryz.underlying216 Tryz.underlying235 rfl rfl Tryz.underlying9 l_cellsE l_cellsS
  obtain ⟨a4, _, v4, _⟩ := laid_sentinel h4 l_gN l_tN Tryz.underlying67 l_row Tryz.underlying216 Tryz.underlying235 rfl rfl Tryz.underlying9 l_cellsE l_cellsS
  obtain ⟨a5, _, v5, _⟩ := laid_sentinel h5 l_gS l_tS Tryz.underlying67 l_row Tryz.underlying216 Tryz.underlying235 rfl rfl Tryz.underlying9 l_cellsE l_cellsS
  refine ⟨a4, a5, ⟨handle_of_laid h, a3, by simpa using World.var?_cell l_gG v3 0⟩, ?_, ?_⟩
  · unfold Nz.errNodeAt
    simpa using World.var?_cell l_gN v4 0
  · unfold errSyntaxAt
    simpa using World.var?_cell l_gS v5 0

def setVar (h : Array Obj) (g : Nat) (v : Value) : Array Obj := h.modify g fun
  | .cells _ t frozen => .cells #[v] t frozen
  | o => o
noncomputable def baseWorld (os : Os) : World :=
  { World.holding Tryz.prog os ⟨#[], #[], []⟩ with heap := setVar (World.holding Tryz.prog os ⟨#[], #[], []⟩).heap 2 (.iface 163 (.agg #[.pointer (some ⟨8, 67, none⟩)])) }
/-- A world for the witness: all laid as their initialisers lay them. -/
noncomputable def laidWorld (os : Os) : World := (baseWorld os).layVars Tryz.prog laidOne
theorem laid_os (os : Os) : (laidWorld os).os = os := World.layVars_os _ _ _
theorem laid_fits (os : Os) : (baseWorld os).layFits Tryz.prog laidOne [] = true := by kernel_rfl
theorem laid_ifaces (os : Os) : (baseWorld os).layIfaces Tryz.prog laidOne (laidWorld os) = true := by kernel_rfl
theorem laid_met (os : Os) (args : Array Value) : laidMet Tryz.prog laidOne ((laidWorld os).forCall (fun _ _ => 0) ⟨#[], args, []⟩).memory := by
  have e1 : (laidOne.filter fun x => (laidOne.map (·.1)).contains x.1) = laidOne := List.filter_eq_self.2 fun x hx => List.contains_iff_mem.2 (List.mem_map.2 ⟨x, hx, rfl⟩)
  have e2 : (laidOne.filter fun x => !(laidOne.map (·.1)).contains x.1) = [] := List.filter_eq_nil_iff.2 fun x hx => by rw [List.contains_iff_mem.2 (List.mem_map.2 ⟨x, hx, rfl⟩)]; simp
  have h : laidMet Tryz.prog laidOne (laidWorld os) := laidMet_layVars (w0 := baseWorld os) (laidOne.map (·.1)) [] (by rw [e1]; rfl) (by rw [e1]; exact laid_fits os) (by rw [e1]; exact laid_ifaces os) (by rw [e2]; exact LaidIn.none)
  exact h.of_heap (by simp [World.memory, World.forCall, Input.heap])
theorem laid_metH (os : Os) (args : Array Value) : laidMetH Tryz.prog laidN ((laidWorld os).forCall (fun _ _ => 0) ⟨#[], args, []⟩).memory :=
  laidMetH_of_parts (laid_met os args) (by kernel_rfl)
end Go.Proofs.YtebejlnegalokaaGreatDoor
