/-
  What the rows of this seat list: the tables that decoding reads, two errors; a world for the witness.
-/
import Derived.Lay
import Derived.Test.YtflpihedhccdfaaGreatDoorCards
import Derived.Test.YtflpihedhccdfaaGreatDoorTie
import Derived.WalkKit
import Derived.ProofKit
import Derived.OpenShut
import Derived.Deep.DeepHandedRow
import Derived.Lib.LaidU8T
import Derived.Stop.LaidErr
import Derived.Stop.LaidTwo
import Derived.LaidLaws
import Derived.MakeChecks
import Derived.RowKitTokens
import Derived.Test.YtflpihedhccdfaaGreatDoorRw7
import Derived.Test.YtflpihedhccdfaaGreatDoorShut
set_option linter.unusedSimpArgs false
set_option linter.unusedVariables false
namespace Go.Proofs.YtflpihedhccdfaaGreatDoor
open Go.RowKit

theorem l_own : ownKnob Tryz.prog.godebug = none := by kernel_rfl
theorem l_out : laidOutB Tryz.prog = true := by kernel_rfl
theorem l_range : Tryz.prog.globalNamed "diaeresis/relex.errRange" = some 1 := by kernel_rfl
theorem l_full : Tryz.prog.globalNamed "diaeresis/relex.errFull" = some 0 := by kernel_rfl
theorem l_rangeType : (Tryz.prog.globals[1]?).map (·.type) = some 58 := by kernel_rfl
theorem l_fullType : (Tryz.prog.globals[0]?).map (·.type) = some 58 := by kernel_rfl
theorem l_cellsE : Tryz.prog.cellsOf 248 = 1 := by kernel_rfl
theorem l_cellsS : Tryz.prog.cellsOf 9 = 1 := by kernel_rfl
theorem l_star : "*" ++ "errors.errorString" = "*errors.errorString" := by decide
theorem l_row (u : TypeId) (h : Tryz.prog.typeName? 3 u = some "*errors.errorString") : u = 226 :=
  typeName_ptr_named (nm := "errors.errorString") (by rw [l_star]; kernel_rfl) (by kernel_rfl) (by decide) u (by rw [l_star]; exact h)
/-- The rows' list. -/
def laidN : List (String × DataW Unit) := [("unicode/utf8.acceptRanges", Rows.laid_unicode_utf8_acceptRanges), ("diaeresis/relex.errRange", Rows.laid_diaeresis_relex_errRange), ("diaeresis/relex.errFull", Rows.laid_diaeresis_relex_errFull), ("unicode/utf8.first", Rows.laid_unicode_utf8_first)]
theorem l_plain : (laidN.all fun x => x.2.handleName?.isNone) = true := by kernel_rfl
theorem l_first : Rows.laid_unicode_utf8_first = Go.Lib.firstData := by kernel_rfl
theorem l_accept : (Rows.laid_unicode_utf8_acceptRanges : DataW Unit) = Go.Lib.acceptData := by kernel_rfl
theorem l_types : U8Types Tryz.prog Lay_lays197_ren := { Lay_lays197 with }
theorem tabs_of_laid {W : World} (h : laidMetH Tryz.prog laidN W) : Tabs W := by
  rw [MakeChecks.laidMetH_plain _ _ _ l_plain] at h
  have h1 := Lib.laidMet.reads h (n := "unicode/utf8.first") (d := Rows.laid_unicode_utf8_first) (.tail _ (.tail _ (.tail _ (.head _))))
  have h2 := Lib.laidMet.reads h (n := "unicode/utf8.acceptRanges") (d := Rows.laid_unicode_utf8_acceptRanges) (.head _)
  rw [l_first] at h1
  rw [l_accept] at h2
  exact utf8Tabs_of_readsT l_types ⟨by kernel_rfl, by kernel_rfl, by kernel_rfl, by kernel_rfl, by kernel_rfl, by kernel_rfl, by kernel_rfl⟩ h1 h2
theorem laidMet_tail {P : Program} {n : String} {d : DataW Unit} {r : List (String × DataW Unit)} {W : World} (h : laidMet P ((n, d) :: r) W) : laidMet P r W := by
  obtain ⟨ps, ⟨g0, t0, cs0, f0, p0, q0, _, _, _, _, hq, e0⟩, hnd, hrows⟩ := h
  subst e0
  exact ⟨q0, hq, (List.nodup_append.1 hnd).2.1, fun b off hm => hrows b off (List.mem_append.2 (.inr hm))⟩
theorem laid5_of_laid {W : World} (h : laidMetH Tryz.prog laidN W) : ∃ a d, Laid5 a d W := by
  rw [MakeChecks.laidMetH_plain _ _ _ l_plain] at h
  obtain ⟨a, d, _, _, c0, c1, t0, t1, v0, v1, _, _, _, _, _, _, hne, h0, h1⟩ := laid_sentinels2 (laidMet_tail h) l_range l_rangeType l_full l_fullType Tryz.underlying58 l_row Tryz.underlying226 Tryz.underlying248 rfl rfl Tryz.underlying9 l_cellsE l_cellsS
  exact ⟨a, d, by simpa using World.var?_cell l_range v0 0, by simpa using World.var?_cell l_full v1 0, hne, ⟨_, _, h0⟩, ⟨_, _, h1⟩⟩

/-- A world for the witness: all laid as their initialisers lay them. -/
noncomputable def laidWorld (os : Os) : World := World.laidAll Tryz.prog os laidN
theorem laid_met (os : Os) (args : Array Value) : laidMet Tryz.prog laidN ((laidWorld os).forCall (fun _ _ => 0) ⟨#[], args, []⟩).memory :=
  laidMet_laidAll _ (by kernel_rfl) (by kernel_rfl)
theorem fits_of_wf {n : Int} (h : (Lit.int .i64 n).wf = true) : -9223372036854775808 ≤ n ∧ n ≤ 9223372036854775807 := by
  simp only [Lit.wf, IntKind.min, IntKind.max, IntKind.signed, IntKind.bits, Bool.and_eq_true, decide_eq_true_eq, if_true] at h
  omega
end Go.Proofs.YtflpihedhccdfaaGreatDoor
