/-
  DERIVED. GIVEN WITH THE SEED: THE CARDS: each row of YtkghmcfbhojbaabDoorRows.lean that lists a variable, with what it lists TIED to the program's text (the seventh form; the later family's looks); each row that meets fmt, with fmt's text TOLD by the authors' own Lean function (tested against real Go, not proved from fmt's source: count such statements apart). THE CARD IS WHAT COUNTS. Prove the row's statement (the work); the ties are given (YtkghmcfbhojbaabDoorTie.lean); close each card by the builder's one call (the guide's Derived/Test/ToyasCard.lean, 'card_holds'). Laid BY PROGRAM, IN A SANDBOX (cutbox-door.mjs). By AI agents, Wed Nov 11 2026. No macro, syntax, notation, axiom, sorry.
-/
import Derived.Test.YtkghmcfbhojbaabDoorRows
import GoSem.ClaimSeven
namespace Go.Proofs.YtkghmcfbhojbaabDoor
namespace Rows

/-- THE TIED CARD OF 'diaeresislaw10.NumberTurns'. -/
def numberTurnsCard : Claim7 := { stood := { row := numberTurnsRow, standIns := [], harness := (true, "03d86def9ea29bbe428f6f6efeaa470c2624c4bf1ce7799c569dabe32262ba32"), looks := true }, kinds := [], alts := [], laidByText := true, laidKinds := [.handle, .sentinel, .sentinel], laidTests := true, laidLooks := .later }
def NumberTurnsCardSaid : Prop := Claim7.holds Tryd.pinned (.plain (OpenSpec.ofChange numberTurnsSpec)) numberTurnsCard

/-- THE SECOND FORM's CARD OF 'diaeresislaw10.NumberTurns'. -/
def numberTurnsUptoCard : Claim7 := { stood := { row := numberTurnsUptoRow, standIns := [], harness := (true, "03d86def9ea29bbe428f6f6efeaa470c2624c4bf1ce7799c569dabe32262ba32"), looks := true }, kinds := [], alts := [], laidByText := true, laidKinds := [.handle, .sentinel, .sentinel], laidTests := true, laidLooks := .later }
def NumberTurnsUptoCardSaid : Prop := Claim7.holds Tryd.pinned (.plain (OpenSpec.upto numberTurnsSpec)) numberTurnsUptoCard
end Rows
end Go.Proofs.YtkghmcfbhojbaabDoor
