/-
  DERIVED. GIVEN WITH THE SEED: THE CARDS: each row of YtlokkdbgihbnhabDoorRows.lean that lists a variable, with what it lists TIED to the program's text (the seventh form; the later family's looks); each row that meets fmt, with fmt's text TOLD by the authors' own Lean function (tested against real Go, not proved from fmt's source: count such statements apart). THE CARD IS WHAT COUNTS. Prove the row's statement (the work); the ties are given (YtlokkdbgihbnhabDoorTie.lean); close each card by the builder's one call (the guide's Derived/Test/ToyasCard.lean, 'card_holds'). Laid BY PROGRAM, IN A SANDBOX (cutbox-door.mjs). By AI agents, Wed Nov 11 2026. No macro, syntax, notation, axiom, sorry.
-/
import Derived.Test.YtlokkdbgihbnhabDoorRows
import GoSem.ClaimSeven
namespace Go.Proofs.YtlokkdbgihbnhabDoor
namespace Rows

/-- THE TIED CARD OF 'diaeresislaw06.GroupWraps'. -/
def groupWrapsCard : Claim7 := { stood := { row := groupWrapsRow, standIns := [], harness := (true, "d60af0051209cdffd78ef0adb291f96112cdf4121e48641e4474e00b9a4076ff"), looks := true }, kinds := [], alts := [], laidByText := true, laidKinds := [.handle, .sentinel], laidTests := true, laidLooks := .later }
def GroupWrapsCardSaid : Prop := Claim7.holds Tryd.pinned (.plain (OpenSpec.ofChange groupWrapsSpec)) groupWrapsCard

/-- THE SECOND FORM's CARD OF 'diaeresislaw06.GroupWraps'. -/
def groupWrapsUptoCard : Claim7 := { stood := { row := groupWrapsUptoRow, standIns := [], harness := (true, "d60af0051209cdffd78ef0adb291f96112cdf4121e48641e4474e00b9a4076ff"), looks := true }, kinds := [], alts := [], laidByText := true, laidKinds := [.handle, .sentinel], laidTests := true, laidLooks := .later }
def GroupWrapsUptoCardSaid : Prop := Claim7.holds Tryd.pinned (.plain (OpenSpec.upto groupWrapsSpec)) groupWrapsUptoCard
end Rows
end Go.Proofs.YtlokkdbgihbnhabDoor
