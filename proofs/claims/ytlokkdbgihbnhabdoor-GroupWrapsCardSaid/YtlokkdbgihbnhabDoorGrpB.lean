/-
  What opens, what closes, by the program and by the document.
-/
import Derived.Test.YtlokkdbgihbnhabDoorProg
import Derived.Test.YtlokkdbgihbnhabDoorReg
import Derived.WalkKit
import Derived.WalkSpells
import Derived.WalkLawsBesides
import Derived.Lib.Hide
import Derived.Lib.MinMax
import Derived.Deep.QuietTactic
import Derived.BigQuiet
import Derived.OwnWalk
import Derived.Deep.AppendLies
import Derived.KernelRfl
import Derived.Test.YtlokkdbgihbnhabDoorGrpA
set_option linter.unusedSimpArgs false
set_option linter.unusedVariables false
namespace Go.Proofs.YtlokkdbgihbnhabDoor
open Go.RowKit

def Tok.opn (x : Tok) : Bool := x.isSign gPar || x.isSign gCur
def Tok.cls (x : Tok) : Bool := x.isSign gPas || x.isSign gCus
def pair2 (x y : Tok) : Bool := (x.isSign gPar && y.isSign gPas) || (x.isSign gCur && y.isSign gCus)
/-- What closes it; whether it opens. -/
def Tok.closer (x : Tok) : ByteArray := if x.glyph = gCur then gCus else if x.glyph = gPar then gPas else noTxt
  where noTxt : ByteArray := ByteArray.empty

theorem boxed3 {w w' : World} {k : Int} {t h : ByteArray} {T : TypeId} (hb : Below (w.heap.size + 1) (w.alloc (.cells #[.int .i64 k, .string t, .string h] T)) w') :
    w'.cell? ⟨w.heap.size, 0, none⟩ = some (.int .i64 k) ∧ w'.cell? ⟨w.heap.size, 1, none⟩ = some (.string t) ∧ w'.cell? ⟨w.heap.size, 2, none⟩ = some (.string h) ∧ Below w.heap.size w w' :=
  ⟨(hb.cell (p := ⟨w.heap.size, 0, none⟩) (by simp)).trans (by simp), (hb.cell (p := ⟨w.heap.size, 1, none⟩) (by simp)).trans (by simp), (hb.cell (p := ⟨w.heap.size, 2, none⟩) (by simp)).trans (by simp),
    ((Below.refl _ _).alloc (Nat.le_refl _) _).trans (hb.mono (by omega))⟩

end Go.Proofs.YtlokkdbgihbnhabDoor
