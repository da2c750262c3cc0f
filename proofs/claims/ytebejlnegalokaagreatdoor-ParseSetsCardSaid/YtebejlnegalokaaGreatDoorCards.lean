/-
  DERIVED. GIVEN WITH THE SEED: THE CARDS: each row of YtebejlnegalokaaGreatDoorRows.lean that lists a variable, with what it lists TIED to the program's text (the seventh form; the later family's looks); each row that meets fmt, with fmt's text TOLD by the authors' own Lean function (tested against real Go, not proved from fmt's source: count such statements apart). THE CARD IS WHAT COUNTS. Prove the row's statement (the work); the ties are given (YtebejlnegalokaaGreatDoorTie.lean); close each card by the builder's one call (the guide's Derived/Test/ToyasCard.lean, 'card_holds'). Laid BY PROGRAM, IN A SANDBOX (cutbox-door.mjs). By AI agents, Wed Nov 11 2026. No macro, syntax, notation, axiom, sorry.
-/
import Derived.Test.YtebejlnegalokaaGreatDoorRows
import GoSem.ClaimSeven
namespace Go.Proofs.YtebejlnegalokaaGreatDoor
namespace Rows

/-- THE TIED CARD OF 'diaeresislaw08.ParseNames'. -/
def parseNamesCard : Claim7 := { stood := { row := parseNamesRow, standIns := [], harness := (true, "c4b3d223c457ab738eaf017a6c564d1b0496ad00511c9c2841418e221d7ac68e"), looks := true }, kinds := [], alts := [], laidByText := true, laidKinds := [.data, .data, .data, .handle, .sentinel, .sentinel, .sentinel], laidTests := true, laidLooks := .later }
def ParseNamesCardSaid : Prop := Claim7.holds Tryz.pinned (.plain (OpenSpec.ofChange parseNamesSpec)) parseNamesCard

/-- THE TIED CARD OF 'diaeresislaw08.ParseMons'. -/
def parseMonsCard : Claim7 := { stood := { row := parseMonsRow, standIns := [], harness := (true, "c4b3d223c457ab738eaf017a6c564d1b0496ad00511c9c2841418e221d7ac68e"), looks := true }, kinds := [], alts := [], laidByText := true, laidKinds := [.data, .data, .data, .handle, .sentinel, .sentinel, .sentinel], laidTests := true, laidLooks := .later }
def ParseMonsCardSaid : Prop := Claim7.holds Tryz.pinned (.plain (OpenSpec.ofChange parseMonsSpec)) parseMonsCard

/-- THE TIED CARD OF 'diaeresislaw08.ParseOps'. -/
def parseOpsCard : Claim7 := { stood := { row := parseOpsRow, standIns := [], harness := (true, "c4b3d223c457ab738eaf017a6c564d1b0496ad00511c9c2841418e221d7ac68e"), looks := true }, kinds := [], alts := [], laidByText := true, laidKinds := [.data, .data, .data, .handle, .sentinel, .sentinel, .sentinel], laidTests := true, laidLooks := .later }
def ParseOpsCardSaid : Prop := Claim7.holds Tryz.pinned (.plain (OpenSpec.ofChange parseOpsSpec)) parseOpsCard

/-- THE TIED CARD OF 'diaeresislaw08.ParseWraps'. -/
def parseWrapsCard : Claim7 := { stood := { row := parseWrapsRow, standIns := [], harness := (true, "c4b3d223c457ab738eaf017a6c564d1b0496ad00511c9c2841418e221d7ac68e"), looks := true }, kinds := [], alts := [], laidByText := true, laidKinds := [.data, .data, .data, .handle, .sentinel, .sentinel, .sentinel], laidTests := true, laidLooks := .later }
def ParseWrapsCardSaid : Prop := Claim7.holds Tryz.pinned (.plain (OpenSpec.ofChange parseWrapsSpec)) parseWrapsCard

/-- THE TIED CARD OF 'diaeresislaw08.ParseSets'. -/
def parseSetsCard : Claim7 := { stood := { row := parseSetsRow, standIns := [], harness := (true, "c4b3d223c457ab738eaf017a6c564d1b0496ad00511c9c2841418e221d7ac68e"), looks := true }, kinds := [], alts := [], laidByText := true, laidKinds := [.data, .data, .data, .handle, .sentinel, .sentinel, .sentinel], laidTests := true, laidLooks := .later }
def ParseSetsCardSaid : Prop := Claim7.holds Tryz.pinned (.plain (OpenSpec.ofChange parseSetsSpec)) parseSetsCard

/-- THE SECOND FORM's CARD OF 'diaeresislaw08.ParseNames'. -/
def parseNamesUptoCard : Claim7 := { stood := { row := parseNamesUptoRow, standIns := [], harness := (true, "c4b3d223c457ab738eaf017a6c564d1b0496ad00511c9c2841418e221d7ac68e"), looks := true }, kinds := [], alts := [], laidByText := true, laidKinds := [.data, .data, .data, .handle, .sentinel, .sentinel, .sentinel], laidTests := true, laidLooks := .later }
def ParseNamesUptoCardSaid : Prop := Claim7.holds Tryz.pinned (.plain (OpenSpec.upto parseNamesSpec)) parseNamesUptoCard

/-- THE SECOND FORM's CARD OF 'diaeresislaw08.ParseMons'. -/
def parseMonsUptoCard : Claim7 := { stood := { row := parseMonsUptoRow, standIns := [], harness := (true, "c4b3d223c457ab738eaf017a6c564d1b0496ad00511c9c2841418e221d7ac68e"), looks := true }, kinds := [], alts := [], laidByText := true, laidKinds := [.data, .data, .data, .handle, .sentinel, .sentinel, .sentinel], laidTests := true, laidLooks := .later }
def ParseMonsUptoCardSaid : Prop := Claim7.holds Tryz.pinned (.plain (OpenSpec.upto parseMonsSpec)) parseMonsUptoCard

/-- THE SECOND FORM's CARD OF 'diaeresislaw08.ParseOps'. -/
def parseOpsUptoCard : Claim7 := { stood := { row := parseOpsUptoRow, standIns := [], harness := (true, "c4b3d223c457ab738eaf017a6c564d1b0496ad00511c9c2841418e221d7ac68e"), looks := true }, kinds := [], alts := [], laidByText := true, laidKinds := [.data, .data, .data, .handle, .sentinel, .sentinel, .sentinel], laidTests := true, laidLooks := .later }
def ParseOpsUptoCardSaid : Prop := Claim7.holds Tryz.pinned (.plain (OpenSpec.upto parseOpsSpec)) parseOpsUptoCard

/-- THE SECOND FORM's CARD OF 'diaeresislaw08.ParseWraps'. -/
def parseWrapsUptoCard : Claim7 := { stood := { row := parseWrapsUptoRow, standIns := [], harness := (true, "c4b3d223c457ab738eaf017a6c564d1b0496ad00511c9c2841418e221d7ac68e"), looks := true }, kinds := [], alts := [], laidByText := true, laidKinds := [.data, .data, .data, .handle, .sentinel, .sentinel, .sentinel], laidTests := true, laidLooks := .later }
def ParseWrapsUptoCardSaid : Prop := Claim7.holds Tryz.pinned (.plain (OpenSpec.upto parseWrapsSpec)) parseWrapsUptoCard

/-- THE SECOND FORM's CARD OF 'diaeresislaw08.ParseSets'. -/
def parseSetsUptoCard : Claim7 := { stood := { row := parseSetsUptoRow, standIns := [], harness := (true, "c4b3d223c457ab738eaf017a6c564d1b0496ad00511c9c2841418e221d7ac68e"), looks := true }, kinds := [], alts := [], laidByText := true, laidKinds := [.data, .data, .data, .handle, .sentinel, .sentinel, .sentinel], laidTests := true, laidLooks := .later }
def ParseSetsUptoCardSaid : Prop := Claim7.holds Tryz.pinned (.plain (OpenSpec.upto parseSetsSpec)) parseSetsUptoCard
end Rows
end Go.Proofs.YtebejlnegalokaaGreatDoor
