/-
  DERIVED. GIVEN WITH THE SEED: THE CARDS: each row of YtamclieppbnpiabGreatDoorRows.lean that lists a variable, with what it lists TIED to the program's text (the seventh form; the later family's looks); each row that meets fmt, with fmt's text TOLD by the authors' own Lean function (tested against real Go, not proved from fmt's source: count such statements apart). THE CARD IS WHAT COUNTS. Prove the row's statement (the work); the ties are given (YtamclieppbnpiabGreatDoorTie.lean); close each card by the builder's one call (the guide's Derived/Test/ToyasCard.lean, 'card_holds'). Laid BY PROGRAM, IN A SANDBOX (cutbox-door.mjs). By AI agents, Wed Nov 11 2026. No macro, syntax, notation, axiom, sorry.
-/
import Derived.Test.YtamclieppbnpiabGreatDoorRows
import GoSem.ClaimSeven
namespace Go.Proofs.YtamclieppbnpiabGreatDoor
namespace Rows

/-- THE TIED CARD OF 'diaeresislaw18.JsonJoins'. -/
def jsonJoinsCard : Claim7 := { stood := { row := jsonJoinsRow, standIns := [], harness := (true, "b193f99eed10a1321bdfdc75a2eca7e84818fb4e7a4f3d342407de00656cb82b"), looks := true }, kinds := [], alts := [], laidByText := true, laidKinds := [.data, .data, .data, .data, .handle, .sentinel, .sentinel, .sentinel, .pinned], laidTests := true, laidLooks := .later }
def JsonJoinsCardSaid : Prop := Claim7.holds Tryz.pinned (.plain (OpenSpec.ofChange jsonJoinsSpec)) jsonJoinsCard

/-- THE TIED CARD OF 'diaeresislaw18.JsonKeys'. -/
def jsonKeysCard : Claim7 := { stood := { row := jsonKeysRow, standIns := [], harness := (true, "b193f99eed10a1321bdfdc75a2eca7e84818fb4e7a4f3d342407de00656cb82b"), looks := true }, kinds := [], alts := [], laidByText := true, laidKinds := [.data, .data, .data, .data, .handle, .sentinel, .sentinel, .sentinel, .pinned], laidTests := true, laidLooks := .later }
def JsonKeysCardSaid : Prop := Claim7.holds Tryz.pinned (.plain (OpenSpec.ofChange jsonKeysSpec)) jsonKeysCard

/-- THE SECOND FORM's CARD OF 'diaeresislaw18.JsonJoins'. -/
def jsonJoinsUptoCard : Claim7 := { stood := { row := jsonJoinsUptoRow, standIns := [], harness := (true, "b193f99eed10a1321bdfdc75a2eca7e84818fb4e7a4f3d342407de00656cb82b"), looks := true }, kinds := [], alts := [], laidByText := true, laidKinds := [.data, .data, .data, .data, .handle, .sentinel, .sentinel, .sentinel, .pinned], laidTests := true, laidLooks := .later }
def JsonJoinsUptoCardSaid : Prop := Claim7.holds Tryz.pinned (.plain (OpenSpec.upto jsonJoinsSpec)) jsonJoinsUptoCard

/-- THE SECOND FORM's CARD OF 'diaeresislaw18.JsonKeys'. -/
def jsonKeysUptoCard : Claim7 := { stood := { row := jsonKeysUptoRow, standIns := [], harness := (true, "b193f99eed10a1321bdfdc75a2eca7e84818fb4e7a4f3d342407de00656cb82b"), looks := true }, kinds := [], alts := [], laidByText := true, laidKinds := [.data, .data, .data, .data, .handle, .sentinel, .sentinel, .sentinel, .pinned], laidTests := true, laidLooks := .later }
def JsonKeysUptoCardSaid : Prop := Claim7.holds Tryz.pinned (.plain (OpenSpec.upto jsonKeysSpec)) jsonKeysUptoCard
end Rows
end Go.Proofs.YtamclieppbnpiabGreatDoor
