/-
  Depths, by the document's program text.
-/
import Derived.Test.YtlokkdbgihbnhabDoorProg
import Derived.Test.YtlokkdbgihbnhabDoorReg
import Derived.WalkKit
import Derived.WalkSpells
import Derived.WalkLawsBesides
import Derived.Lib.Hide
import Derived.Lib.MinMax
import Derived.Deep.QuietTactic
import Derived.BigQuiet
import Derived.OwnWalk
import Derived.Deep.AppendLies
import Derived.KernelRfl
import Derived.ArgAppend
import Derived.Maps.AppendAt
import Derived.Laws.Rows
import Derived.Test.YtlokkdbgihbnhabDoorGrpN
set_option linter.unusedSimpArgs false
set_option linter.unusedVariables false
namespace Go.Proofs.YtlokkdbgihbnhabDoor
open Go.RowKit

structure RDeepAt (l : List Tok) (w0 wr : World) (o : Value) (d : Int) (k : Nat) (s : Brs) : Prop where
  le : k ≤ l.length
  run : Brs.none0.run (brs (l.take k)) = some s
  out : wr.ownsRow w0.heap.size 3 1 o k (intCells (s.deeps.map (fun (d : Nat) => (d : Int))))
  deep : d = s.stack.length
  low : Below w0.heap.size w0 wr

theorem step_close {s t : Brs} {b : Bool} (h : s.step (some (false, b)) = some t) : ∃ q r, s.stack = (q, b) :: r ∧ t.stack = r ∧ t.deeps = s.deeps ++ [r.length] := by
  cases hs : s.stack with
  | nil => simp [Brs.step, hs] at h
  | cons x r =>
    obtain ⟨q, c⟩ := x
    simp only [Brs.step, hs] at h
    split at h
    · rename_i hc
      subst hc
      cases h
      exact ⟨q, r, rfl, rfl, rfl⟩
    · cases h

theorem deeps_snoc (D : List Nat) (d : Nat) : intCells ((D ++ [d]).map (fun (d : Nat) => (d : Int))) = intCells (D.map (fun (d : Nat) => (d : Int))) ++ [.int .i64 (d : Int)] := by simp [intCells]

end Go.Proofs.YtlokkdbgihbnhabDoor
