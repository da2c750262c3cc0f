/-
  What the rows of EditBetween and EditMakes list: Go's tables of UTF-8, the error 'no edit'; a world for the witness.
-/
import Derived.Lay
import Derived.Test.YtkfdjffoljkomaaDoorEdLaid
set_option linter.unusedSimpArgs false
set_option linter.unusedVariables false
namespace Go.Proofs.YtkfdjffoljkomaaDoor
open Go.RowKit

/-- The rows' list. -/
def laidErr3 : List (String × DataW Unit) := [("unicode/utf8.acceptRanges", Rows.laid_unicode_utf8_acceptRanges), ("diaeresis/edit.errEdit", Rows.laid_diaeresis_edit_errEdit), ("unicode/utf8.first", Rows.laid_unicode_utf8_first)]
theorem l_plain3 : (laidErr3.all fun x => x.2.handleName?.isNone) = true := by kernel_rfl

theorem laidMet_tail {P : Program} {n : String} {d : DataW Unit} {r : List (String × DataW Unit)} {W : World} (h : laidMet P ((n, d) :: r) W) : laidMet P r W := by
  obtain ⟨ps, ⟨g0, t0, cs0, f0, p0, q0, _, _, _, _, hq, e0⟩, hnd, hrows⟩ := h
  subst e0
  exact ⟨q0, hq, (List.nodup_append.1 hnd).2.1, fun b off hm => hrows b off (List.mem_append.2 (.inr hm))⟩

theorem errAt_of_laid3 {W : World} (h : laidMetH Tryd.prog laidErr3 W) : ∃ b, ErrAt b W := by
  rw [MakeChecks.laidMetH_plain _ _ _ l_plain3] at h
  obtain ⟨a, s, hv, _⟩ := laid_sentinel (laidMet_tail h) l_err l_errType Tryd.underlying45 l_row Tryd.underlying92 Tryd.underlying117 rfl rfl Tryd.underlying9 l_cellsE e_cstring
  exact ⟨a, by unfold ErrAt; simpa using World.var?_cell l_err hv 0⟩

/-- A world for the witness: the three laid as their initialisers lay them. -/
noncomputable def laidWorld3 (os : Os) : World := World.laidAll Tryd.prog os laidErr3
theorem laid_met3 (os : Os) (args : Array Value) : laidMet Tryd.prog laidErr3 ((laidWorld3 os).forCall (fun _ _ => 0) ⟨#[], args, []⟩).memory :=
  laidMet_laidAll _ (by kernel_rfl) (by kernel_rfl)
end Go.Proofs.YtkfdjffoljkomaaDoor
