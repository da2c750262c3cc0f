/-
  Insides, by the document's program text; are two lists of lists the same.
-/
import Derived.Test.YtlokkdbgihbnhabDoorProg
import Derived.Test.YtlokkdbgihbnhabDoorReg
import Derived.WalkKit
import Derived.WalkSpells
import Derived.WalkLawsBesides
import Derived.Lib.Hide
import Derived.Lib.MinMax
import Derived.Deep.QuietTactic
import Derived.BigQuiet
import Derived.OwnWalk
import Derived.Deep.AppendLies
import Derived.KernelRfl
import Derived.Laws.Rows
import Derived.Test.YtlokkdbgihbnhabDoorGrpRb
set_option linter.unusedSimpArgs false
set_option linter.unusedVariables false
namespace Go.Proofs.YtlokkdbgihbnhabDoor
open Go.RowKit

/-- The partner at a place that is told to lie behind. -/
theorem inside_pair {l : List Tok} (h : codeOf l = 0) {n : Nat} (hn : n < l.length) (hp : (n : Int) ≤ (brsOf l).pr n) : ∃ j : Nat, (brsOf l).pr n = j ∧ n < j ∧ j < l.length := by
  obtain ⟨j, h1, h2, h3, _⟩ := partners_law h hn (by omega)
  exact ⟨j, h1, by omega, h2⟩
theorem pr_get {l : List Tok} (h : codeOf l = 0) {n : Nat} (hn : n < l.length) : (brsOf l).pairs[n]? = some ((brsOf l).pr n) := by
  have h1 := (brsOf_len h).1
  unfold Brs.pr
  rw [List.getD_eq_getElem?_getD, List.getElem?_eq_getElem (by omega)]
  rfl
theorem insideRes_no {l : List Tok} {a : Int} (h : codeOf l = 0) (hn : ¬ (0 ≤ a ∧ a < l.length ∧ a ≤ (brsOf l).pr a.toNat)) : insideRes l a = ([], 60) := by
  unfold insideRes
  rw [if_pos h, if_neg hn]
theorem insideRes_yes {l : List Tok} {n j : Nat} (h : codeOf l = 0) (hn : n < l.length) (hp : (brsOf l).pr n = j) (hj : n < j) : insideRes l n = (seg l (n + 1) j, 0) := by
  unfold insideRes
  rw [if_pos h, if_pos ⟨by omega, by omega, by rw [Int.toNat_natCast, hp]; omega⟩, Int.toNat_natCast, hp, Int.toNat_natCast]

end Go.Proofs.YtlokkdbgihbnhabDoor
