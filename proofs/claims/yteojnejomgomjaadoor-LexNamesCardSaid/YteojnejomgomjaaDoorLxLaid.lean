/-
  What the rows of this seat list: the tables that decoding reads; a world for the witness.
-/
import Derived.Lay
import Derived.Test.YteojnejomgomjaaDoorCards
import Derived.Test.YteojnejomgomjaaDoorTie
import Derived.WalkKit
import Derived.ProofKit
import Derived.OpenShut
import Derived.Deep.DeepHandedRow
import Derived.Lib.LaidU8T
import Derived.LaidLaws
import Derived.MakeChecks
import Derived.RowKitTokens
import Derived.Test.YteojnejomgomjaaDoorLxArg
import Derived.Test.YteojnejomgomjaaDoorLxLo
import Derived.Test.YteojnejomgomjaaDoorShut
set_option linter.unusedSimpArgs false
set_option linter.unusedVariables false
namespace Go.Proofs.YteojnejomgomjaaDoor
open Go.RowKit

theorem l_own : ownKnob Tryd.prog.godebug = none := by kernel_rfl
theorem l_out : laidOutB Tryd.prog = true := by kernel_rfl
/-- The rows' list. -/
def laidN : List (String × DataW Unit) := [("unicode/utf8.acceptRanges", Rows.laid_unicode_utf8_acceptRanges), ("unicode/utf8.first", Rows.laid_unicode_utf8_first)]
theorem l_plain : (laidN.all fun x => x.2.handleName?.isNone) = true := by kernel_rfl
theorem l_first : Rows.laid_unicode_utf8_first = Go.Lib.firstData := by kernel_rfl
theorem l_accept : (Rows.laid_unicode_utf8_acceptRanges : DataW Unit) = Go.Lib.acceptData := by kernel_rfl
theorem l_types : U8Types Tryd.prog Lay_lays197_ren := { Lay_lays197 with }
theorem tabs_of_laid {W : World} (h : laidMetH Tryd.prog laidN W) : Tabs W := by
  rw [MakeChecks.laidMetH_plain _ _ _ l_plain] at h
  have h1 := Lib.laidMet.reads h (n := "unicode/utf8.first") (d := Rows.laid_unicode_utf8_first) (.tail _ (.head _))
  have h2 := Lib.laidMet.reads h (n := "unicode/utf8.acceptRanges") (d := Rows.laid_unicode_utf8_acceptRanges) (.head _)
  rw [l_first] at h1
  rw [l_accept] at h2
  exact utf8Tabs_of_readsT l_types ⟨by kernel_rfl, by kernel_rfl, by kernel_rfl, by kernel_rfl, by kernel_rfl, by kernel_rfl, by kernel_rfl⟩ h1 h2

/-- A world for the witness: all laid as their initialisers lay them. -/
noncomputable def laidWorld (os : Os) : World := World.laidAll Tryd.prog os laidN
theorem laid_met (os : Os) (args : Array Value) : laidMet Tryd.prog laidN ((laidWorld os).forCall (fun _ _ => 0) ⟨#[], args, []⟩).memory :=
  laidMet_laidAll _ (by kernel_rfl) (by kernel_rfl)
end Go.Proofs.YteojnejomgomjaaDoor
