/-
  What the rows of this seat list: tables, three errors; a world for the witness.
-/
import Derived.Lay
import Derived.Test.YtjlehlkkgkplmaaDoorCards
import Derived.Test.YtjlehlkkgkplmaaDoorTie
import Derived.WalkKit
import Derived.ProofKit
import Derived.OpenShut
import Derived.Deep.DeepHandedRow
import Derived.Lib.LaidTab
import Derived.Stop.LaidErr
import Derived.LaidLaws
import Derived.MakeChecks
import Derived.RowKitTokens
import Derived.Test.YtjlehlkkgkplmaaDoorFrSh
import Derived.Test.YtjlehlkkgkplmaaDoorShut
set_option linter.unusedSimpArgs false
set_option linter.unusedVariables false
namespace Go.Proofs.YtjlehlkkgkplmaaDoor
open Go.RowKit

theorem l_own : ownKnob Tryd.prog.godebug = none := by kernel_rfl
theorem l_out : laidOutB Tryd.prog = true := by kernel_rfl
theorem l_gPow : Tryd.prog.globalNamed "internal/strconv.uint64pow10" = some 1 := by kernel_rfl
theorem l_gRange : Tryd.prog.globalNamed "strconv.ErrRange" = some 6 := by kernel_rfl
theorem l_gSyntax : Tryd.prog.globalNamed "strconv.ErrSyntax" = some 5 := by kernel_rfl
theorem l_gFrame : Tryd.prog.globalNamed "diaeresis/frame.errFrame" = some 0 := by kernel_rfl
theorem l_tPow : (Tryd.prog.globals[1]?).map (·.type) = some 93 := by kernel_rfl
theorem l_tRange : (Tryd.prog.globals[6]?).map (·.type) = some 46 := by kernel_rfl
theorem l_tSyntax : (Tryd.prog.globals[5]?).map (·.type) = some 46 := by kernel_rfl
theorem l_tFrame : (Tryd.prog.globals[0]?).map (·.type) = some 46 := by kernel_rfl
theorem l_cellsE : Tryd.prog.cellsOf 128 = 1 := by kernel_rfl
theorem l_cellsS : Tryd.prog.cellsOf 9 = 1 := by kernel_rfl
theorem l_cellsU : Tryd.prog.cellsOf 82 = 1 := by kernel_rfl
theorem l_cellsA : Tryd.prog.cellsOf 93 = 20 := by kernel_rfl
theorem l_star : "*" ++ "errors.errorString" = "*errors.errorString" := by decide
theorem l_row (u : TypeId) (h : Tryd.prog.typeName? 3 u = some "*errors.errorString") : u = 126 :=
  typeName_ptr_named (nm := "errors.errorString") (by rw [l_star]; kernel_rfl) (by kernel_rfl) (by decide) u (by rw [l_star]; exact h)
/-- The rows' list. -/
def laidN : List (String × DataW Unit) := [("math/bits.deBruijn32tab", Rows.laid_math_bits_deBruijn32tab), ("math/bits.deBruijn64tab", Rows.laid_math_bits_deBruijn64tab), ("internal/strconv.uint64pow10", Rows.laid_internal_strconv_uint64pow10), ("unicode/utf8.acceptRanges", Rows.laid_unicode_utf8_acceptRanges), ("strconv.ErrRange", Rows.laid_strconv_ErrRange), ("strconv.ErrSyntax", Rows.laid_strconv_ErrSyntax), ("diaeresis/frame.errFrame", Rows.laid_diaeresis_frame_errFrame), ("unicode/utf8.first", Rows.laid_unicode_utf8_first)]
theorem l_plain : (laidN.all fun x => x.2.handleName?.isNone) = true := by kernel_rfl
theorem l_pow : (Rows.laid_internal_strconv_uint64pow10 : DataW Unit) = Lib.tabData .u64 Lib.pow10Tab := by kernel_rfl
theorem laidMet_tail {P : Program} {n : String} {d : DataW Unit} {r : List (String × DataW Unit)} {W : World} (h : laidMet P ((n, d) :: r) W) : laidMet P r W := by
  obtain ⟨ps, ⟨g0, t0, cs0, f0, p0, q0, _, _, _, _, hq, e0⟩, hnd, hrows⟩ := h
  subst e0
  exact ⟨q0, hq, (List.nodup_append.1 hnd).2.1, fun b off hm => hrows b off (List.mem_append.2 (.inr hm))⟩
theorem laidF_of_laid {W : World} (h : laidMetH Tryd.prog laidN W) (hS : W.ShapedOpen Tryd.prog) : ∃ a, LaidF a W := by
  rw [MakeChecks.laidMetH_plain _ _ _ l_plain] at h
  have h2 := laidMet_tail (laidMet_tail h)
  have h4 := laidMet_tail (laidMet_tail h2)
  have h5 := laidMet_tail h4
  have h6 := laidMet_tail h5
  rw [l_pow] at h2
  have hp := Lib.tabIs_of_head l_gPow l_tPow Tryd.underlying93 Tryd.underlying82 l_cellsU l_cellsA h2
  obtain ⟨a4, _, v4, _⟩ := laid_sentinel h4 l_gRange l_tRange Tryd.underlying46 l_row Tryd.underlying126 Tryd.underlying128 rfl rfl Tryd.underlying9 l_cellsE l_cellsS
  obtain ⟨a5, _, v5, _⟩ := laid_sentinel h5 l_gSyntax l_tSyntax Tryd.underlying46 l_row Tryd.underlying126 Tryd.underlying128 rfl rfl Tryd.underlying9 l_cellsE l_cellsS
  obtain ⟨a6, _, v6, _⟩ := laid_sentinel h6 l_gFrame l_tFrame Tryd.underlying46 l_row Tryd.underlying126 Tryd.underlying128 rfl rfl Tryd.underlying9 l_cellsE l_cellsS
  refine ⟨a6, ?_, Lay_laysM145.s1_3 W hS, hp, ?_, ⟨_, _, by simpa using World.var?_cell l_gSyntax v5 0⟩, ⟨_, _, by simpa using World.var?_cell l_gRange v4 0⟩⟩
  · unfold ErrF
    simpa using World.var?_cell l_gFrame v6 0
  · exact cell_lt (hp.cell l_gPow 0 (by decide))

/-- A world for the witness: all laid as their initialisers lay them. -/
noncomputable def laidWorld (os : Os) : World := World.laidAll Tryd.prog os laidN
theorem laid_met (os : Os) (args : Array Value) : laidMet Tryd.prog laidN ((laidWorld os).forCall (fun _ _ => 0) ⟨#[], args, []⟩).memory :=
  laidMet_laidAll _ (by kernel_rfl) (by kernel_rfl)
theorem fits_of_wf {n : Int} (h : (Lit.int .i64 n).wf = true) : -9223372036854775808 ≤ n ∧ n ≤ 9223372036854775807 := by
  simp only [Lit.wf, IntKind.min, IntKind.max, IntKind.signed, IntKind.bits, Bool.and_eq_true, decide_eq_true_eq, if_true] at h
  omega
end Go.Proofs.YtjlehlkkgkplmaaDoor
