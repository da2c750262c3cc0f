/-
  Parts, insides, by the document's program text; are two lists of lists the same.
-/
import Derived.Test.YtlokkdbgihbnhabDoorProg
import Derived.Test.YtlokkdbgihbnhabDoorReg
import Derived.WalkKit
import Derived.WalkSpells
import Derived.WalkLawsBesides
import Derived.Lib.Hide
import Derived.Lib.MinMax
import Derived.Deep.QuietTactic
import Derived.BigQuiet
import Derived.OwnWalk
import Derived.Deep.AppendLies
import Derived.KernelRfl
import Derived.ArgAppend
import Derived.Maps.AppendAt
import Derived.Laws.Rows
import Derived.Test.YtlokkdbgihbnhabDoorGrpRa
set_option linter.unusedSimpArgs false
set_option linter.unusedVariables false
namespace Go.Proofs.YtlokkdbgihbnhabDoor
open Go.RowKit

theorem infoToks : (Tryd.prog.info? 22).map (fun i => (i.zero, i.size, i.bytes)) = some (some (.slice none 0 0), 1, 24) := by kernel_rfl

theorem br_none_of {x : Tok} (h1 : x.opn = false) (h2 : x.cls = false) : x.br = none := by
  rcases br_ways x with ⟨h, _⟩ | ⟨b, _, h, _⟩ | ⟨b, _, _, h, _⟩
  · exact h
  · rw [h1] at h; cases h
  · rw [h2] at h; cases h

structure RSplitAt (l : List Tok) (g : ByteArray) (w0 wr : World) (o : Value) (a : Nat) (k : Nat) (xs : List Value) (done : List (List Tok)) : Prop where
  le : k ≤ l.length
  from_ : a ≤ k
  few : done.length ≤ k
  out : wr.ownsRow w0.heap.size 22 1 o done.length xs
  rows : RowsT w0 xs done
  goes : done ++ splitGo g (l.drop k) ((brsOf l).deeps.drop k) (seg l a k) = splitOf l g
  low : Below w0.heap.size w0 wr

end Go.Proofs.YtlokkdbgihbnhabDoor
