/-
  DERIVED. GIVEN WITH THE SEED: THE CARDS: each row of YtamclieppbnpiaaGreatDoorRows.lean that lists a variable, with what it lists TIED to the program's text (the seventh form; the later family's looks); each row that meets fmt, with fmt's text TOLD by the authors' own Lean function (tested against real Go, not proved from fmt's source: count such statements apart). THE CARD IS WHAT COUNTS. Prove the row's statement (the work); the ties are given (YtamclieppbnpiaaGreatDoorTie.lean); close each card by the builder's one call (the guide's Derived/Test/ToyasCard.lean, 'card_holds'). Laid BY PROGRAM, IN A SANDBOX (cutbox-door.mjs). By AI agents, Wed Nov 11 2026. No macro, syntax, notation, axiom, sorry.
-/
import Derived.Test.YtamclieppbnpiaaGreatDoorRows
import GoSem.ClaimSeven
namespace Go.Proofs.YtamclieppbnpiaaGreatDoor
namespace Rows

/-- THE TIED CARD OF 'diaeresislaw18.JsonParses'. -/
def jsonParsesCard : Claim7 := { stood := { row := jsonParsesRow, standIns := [], harness := (true, "adef3e56b279015705ca2c9f6f371b323232d90c4ea71159d107035e7e36e736"), looks := true }, kinds := [], alts := [], laidByText := true, laidKinds := [.data, .data, .data, .data, .handle, .sentinel, .sentinel, .sentinel, .pinned], laidTests := true, laidLooks := .later }
def JsonParsesCardSaid : Prop := Claim7.holds Tryz.pinned (.plain (OpenSpec.ofChange jsonParsesSpec)) jsonParsesCard

/-- THE TIED CARD OF 'diaeresislaw18.JsonTells'. -/
def jsonTellsCard : Claim7 := { stood := { row := jsonTellsRow, standIns := [], harness := (true, "adef3e56b279015705ca2c9f6f371b323232d90c4ea71159d107035e7e36e736"), looks := true }, kinds := [], alts := [], laidByText := true, laidKinds := [.data, .data, .data, .data, .handle, .sentinel, .sentinel, .sentinel, .pinned], laidTests := true, laidLooks := .later }
def JsonTellsCardSaid : Prop := Claim7.holds Tryz.pinned (.plain (OpenSpec.ofChange jsonTellsSpec)) jsonTellsCard

/-- THE TIED CARD OF 'diaeresislaw18.JsonBack'. -/
def jsonBackCard : Claim7 := { stood := { row := jsonBackRow, standIns := [], harness := (true, "adef3e56b279015705ca2c9f6f371b323232d90c4ea71159d107035e7e36e736"), looks := true }, kinds := [], alts := [], laidByText := true, laidKinds := [.data, .data, .data, .data, .handle, .sentinel, .sentinel, .sentinel, .pinned], laidTests := true, laidLooks := .later }
def JsonBackCardSaid : Prop := Claim7.holds Tryz.pinned (.plain (OpenSpec.ofChange jsonBackSpec)) jsonBackCard

/-- THE TIED CARD OF 'diaeresislaw18.JsonRights'. -/
def jsonRightsCard : Claim7 := { stood := { row := jsonRightsRow, standIns := [], harness := (true, "adef3e56b279015705ca2c9f6f371b323232d90c4ea71159d107035e7e36e736"), looks := true }, kinds := [], alts := [], laidByText := true, laidKinds := [.data, .data, .data, .data, .handle, .sentinel, .sentinel, .sentinel, .pinned], laidTests := true, laidLooks := .later }
def JsonRightsCardSaid : Prop := Claim7.holds Tryz.pinned (.plain (OpenSpec.ofChange jsonRightsSpec)) jsonRightsCard

/-- THE TIED CARD OF 'diaeresislaw18.JsonNests'. -/
def jsonNestsCard : Claim7 := { stood := { row := jsonNestsRow, standIns := [], harness := (true, "adef3e56b279015705ca2c9f6f371b323232d90c4ea71159d107035e7e36e736"), looks := true }, kinds := [], alts := [], laidByText := true, laidKinds := [.data, .data, .data, .data, .handle, .sentinel, .sentinel, .sentinel, .pinned], laidTests := true, laidLooks := .later }
def JsonNestsCardSaid : Prop := Claim7.holds Tryz.pinned (.plain (OpenSpec.ofChange jsonNestsSpec)) jsonNestsCard

/-- THE TIED CARD OF 'diaeresislaw18.JsonTexts'. -/
def jsonTextsCard : Claim7 := { stood := { row := jsonTextsRow, standIns := [], harness := (true, "adef3e56b279015705ca2c9f6f371b323232d90c4ea71159d107035e7e36e736"), looks := true }, kinds := [], alts := [], laidByText := true, laidKinds := [.data, .data, .data, .data, .handle, .sentinel, .sentinel, .sentinel, .pinned], laidTests := true, laidLooks := .later }
def JsonTextsCardSaid : Prop := Claim7.holds Tryz.pinned (.plain (OpenSpec.ofChange jsonTextsSpec)) jsonTextsCard

/-- THE SECOND FORM's CARD OF 'diaeresislaw18.JsonParses'. -/
def jsonParsesUptoCard : Claim7 := { stood := { row := jsonParsesUptoRow, standIns := [], harness := (true, "adef3e56b279015705ca2c9f6f371b323232d90c4ea71159d107035e7e36e736"), looks := true }, kinds := [], alts := [], laidByText := true, laidKinds := [.data, .data, .data, .data, .handle, .sentinel, .sentinel, .sentinel, .pinned], laidTests := true, laidLooks := .later }
def JsonParsesUptoCardSaid : Prop := Claim7.holds Tryz.pinned (.plain (OpenSpec.upto jsonParsesSpec)) jsonParsesUptoCard

/-- THE SECOND FORM's CARD OF 'diaeresislaw18.JsonTells'. -/
def jsonTellsUptoCard : Claim7 := { stood := { row := jsonTellsUptoRow, standIns := [], harness := (true, "adef3e56b279015705ca2c9f6f371b323232d90c4ea71159d107035e7e36e736"), looks := true }, kinds := [], alts := [], laidByText := true, laidKinds := [.data, .data, .data, .data, .handle, .sentinel, .sentinel, .sentinel, .pinned], laidTests := true, laidLooks := .later }
def JsonTellsUptoCardSaid : Prop := Claim7.holds Tryz.pinned (.plain (OpenSpec.upto jsonTellsSpec)) jsonTellsUptoCard

/-- THE SECOND FORM's CARD OF 'diaeresislaw18.JsonBack'. -/
def jsonBackUptoCard : Claim7 := { stood := { row := jsonBackUptoRow, standIns := [], harness := (true, "adef3e56b279015705ca2c9f6f371b323232d90c4ea71159d107035e7e36e736"), looks := true }, kinds := [], alts := [], laidByText := true, laidKinds := [.data, .data, .data, .data, .handle, .sentinel, .sentinel, .sentinel, .pinned], laidTests := true, laidLooks := .later }
def JsonBackUptoCardSaid : Prop := Claim7.holds Tryz.pinned (.plain (OpenSpec.upto jsonBackSpec)) jsonBackUptoCard

/-- THE SECOND FORM's CARD OF 'diaeresislaw18.JsonRights'. -/
def jsonRightsUptoCard : Claim7 := { stood := { row := jsonRightsUptoRow, standIns := [], harness := (true, "adef3e56b279015705ca2c9f6f371b323232d90c4ea71159d107035e7e36e736"), looks := true }, kinds := [], alts := [], laidByText := true, laidKinds := [.data, .data, .data, .data, .handle, .sentinel, .sentinel, .sentinel, .pinned], laidTests := true, laidLooks := .later }
def JsonRightsUptoCardSaid : Prop := Claim7.holds Tryz.pinned (.plain (OpenSpec.upto jsonRightsSpec)) jsonRightsUptoCard

/-- THE SECOND FORM's CARD OF 'diaeresislaw18.JsonNests'. -/
def jsonNestsUptoCard : Claim7 := { stood := { row := jsonNestsUptoRow, standIns := [], harness := (true, "adef3e56b279015705ca2c9f6f371b323232d90c4ea71159d107035e7e36e736"), looks := true }, kinds := [], alts := [], laidByText := true, laidKinds := [.data, .data, .data, .data, .handle, .sentinel, .sentinel, .sentinel, .pinned], laidTests := true, laidLooks := .later }
def JsonNestsUptoCardSaid : Prop := Claim7.holds Tryz.pinned (.plain (OpenSpec.upto jsonNestsSpec)) jsonNestsUptoCard

/-- THE SECOND FORM's CARD OF 'diaeresislaw18.JsonTexts'. -/
def jsonTextsUptoCard : Claim7 := { stood := { row := jsonTextsUptoRow, standIns := [], harness := (true, "adef3e56b279015705ca2c9f6f371b323232d90c4ea71159d107035e7e36e736"), looks := true }, kinds := [], alts := [], laidByText := true, laidKinds := [.data, .data, .data, .data, .handle, .sentinel, .sentinel, .sentinel, .pinned], laidTests := true, laidLooks := .later }
def JsonTextsUptoCardSaid : Prop := Claim7.holds Tryz.pinned (.plain (OpenSpec.upto jsonTextsSpec)) jsonTextsUptoCard
end Rows
end Go.Proofs.YtamclieppbnpiaaGreatDoor
