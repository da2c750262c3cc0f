/-
  DERIVED. GIVEN WITH THE SEED: THE CARDS: each row of YtlokkdbgihbnhaaDoorRows.lean that lists a variable, with what it lists TIED to the program's text (the seventh form; the later family's looks); each row that meets fmt, with fmt's text TOLD by the authors' own Lean function (tested against real Go, not proved from fmt's source: count such statements apart). THE CARD IS WHAT COUNTS. Prove the row's statement (the work); the ties are given (YtlokkdbgihbnhaaDoorTie.lean); close each card by the builder's one call (the guide's Derived/Test/ToyasCard.lean, 'card_holds'). Laid BY PROGRAM, IN A SANDBOX (cutbox-door.mjs). By AI agents, Wed Nov 11 2026. No macro, syntax, notation, axiom, sorry.
-/
import Derived.Test.YtlokkdbgihbnhaaDoorRows
import GoSem.ClaimSeven
namespace Go.Proofs.YtlokkdbgihbnhaaDoor
namespace Rows

/-- THE TIED CARD OF 'diaeresislaw06.GroupMatches'. -/
def groupMatchesCard : Claim7 := { stood := { row := groupMatchesRow, standIns := [], harness := (true, "e03b11628916a1e1467ca90b19df3ce7e6278579f291c27c4600533edf63bf04"), looks := true }, kinds := [], alts := [], laidByText := true, laidKinds := [.handle, .sentinel], laidTests := true, laidLooks := .later }
def GroupMatchesCardSaid : Prop := Claim7.holds Tryd.pinned (.plain (OpenSpec.ofChange groupMatchesSpec)) groupMatchesCard

/-- THE TIED CARD OF 'diaeresislaw06.GroupWhole'. -/
def groupWholeCard : Claim7 := { stood := { row := groupWholeRow, standIns := [], harness := (true, "e03b11628916a1e1467ca90b19df3ce7e6278579f291c27c4600533edf63bf04"), looks := true }, kinds := [], alts := [], laidByText := true, laidKinds := [.handle, .sentinel], laidTests := true, laidLooks := .later }
def GroupWholeCardSaid : Prop := Claim7.holds Tryd.pinned (.plain (OpenSpec.ofChange groupWholeSpec)) groupWholeCard

/-- THE TIED CARD OF 'diaeresislaw06.GroupDeeper'. -/
def groupDeeperCard : Claim7 := { stood := { row := groupDeeperRow, standIns := [], harness := (true, "e03b11628916a1e1467ca90b19df3ce7e6278579f291c27c4600533edf63bf04"), looks := true }, kinds := [], alts := [], laidByText := true, laidKinds := [.handle, .sentinel], laidTests := true, laidLooks := .later }
def GroupDeeperCardSaid : Prop := Claim7.holds Tryd.pinned (.plain (OpenSpec.ofChange groupDeeperSpec)) groupDeeperCard

/-- THE TIED CARD OF 'diaeresislaw06.GroupJoins'. -/
def groupJoinsCard : Claim7 := { stood := { row := groupJoinsRow, standIns := [], harness := (true, "e03b11628916a1e1467ca90b19df3ce7e6278579f291c27c4600533edf63bf04"), looks := true }, kinds := [], alts := [], laidByText := true, laidKinds := [.handle, .sentinel], laidTests := true, laidLooks := .later }
def GroupJoinsCardSaid : Prop := Claim7.holds Tryd.pinned (.plain (OpenSpec.ofChange groupJoinsSpec)) groupJoinsCard

/-- THE TIED CARD OF 'diaeresislaw06.GroupParts'. -/
def groupPartsCard : Claim7 := { stood := { row := groupPartsRow, standIns := [], harness := (true, "e03b11628916a1e1467ca90b19df3ce7e6278579f291c27c4600533edf63bf04"), looks := true }, kinds := [], alts := [], laidByText := true, laidKinds := [.handle, .sentinel], laidTests := true, laidLooks := .later }
def GroupPartsCardSaid : Prop := Claim7.holds Tryd.pinned (.plain (OpenSpec.ofChange groupPartsSpec)) groupPartsCard

/-- THE TIED CARD OF 'diaeresislaw06.GroupPartners'. -/
def groupPartnersCard : Claim7 := { stood := { row := groupPartnersRow, standIns := [], harness := (true, "e03b11628916a1e1467ca90b19df3ce7e6278579f291c27c4600533edf63bf04"), looks := true }, kinds := [], alts := [], laidByText := true, laidKinds := [.handle, .sentinel], laidTests := true, laidLooks := .later }
def GroupPartnersCardSaid : Prop := Claim7.holds Tryd.pinned (.plain (OpenSpec.ofChange groupPartnersSpec)) groupPartnersCard

/-- THE SECOND FORM's CARD OF 'diaeresislaw06.GroupMatches'. -/
def groupMatchesUptoCard : Claim7 := { stood := { row := groupMatchesUptoRow, standIns := [], harness := (true, "e03b11628916a1e1467ca90b19df3ce7e6278579f291c27c4600533edf63bf04"), looks := true }, kinds := [], alts := [], laidByText := true, laidKinds := [.handle, .sentinel], laidTests := true, laidLooks := .later }
def GroupMatchesUptoCardSaid : Prop := Claim7.holds Tryd.pinned (.plain (OpenSpec.upto groupMatchesSpec)) groupMatchesUptoCard

/-- THE SECOND FORM's CARD OF 'diaeresislaw06.GroupWhole'. -/
def groupWholeUptoCard : Claim7 := { stood := { row := groupWholeUptoRow, standIns := [], harness := (true, "e03b11628916a1e1467ca90b19df3ce7e6278579f291c27c4600533edf63bf04"), looks := true }, kinds := [], alts := [], laidByText := true, laidKinds := [.handle, .sentinel], laidTests := true, laidLooks := .later }
def GroupWholeUptoCardSaid : Prop := Claim7.holds Tryd.pinned (.plain (OpenSpec.upto groupWholeSpec)) groupWholeUptoCard

/-- THE SECOND FORM's CARD OF 'diaeresislaw06.GroupDeeper'. -/
def groupDeeperUptoCard : Claim7 := { stood := { row := groupDeeperUptoRow, standIns := [], harness := (true, "e03b11628916a1e1467ca90b19df3ce7e6278579f291c27c4600533edf63bf04"), looks := true }, kinds := [], alts := [], laidByText := true, laidKinds := [.handle, .sentinel], laidTests := true, laidLooks := .later }
def GroupDeeperUptoCardSaid : Prop := Claim7.holds Tryd.pinned (.plain (OpenSpec.upto groupDeeperSpec)) groupDeeperUptoCard

/-- THE SECOND FORM's CARD OF 'diaeresislaw06.GroupJoins'. -/
def groupJoinsUptoCard : Claim7 := { stood := { row := groupJoinsUptoRow, standIns := [], harness := (true, "e03b11628916a1e1467ca90b19df3ce7e6278579f291c27c4600533edf63bf04"), looks := true }, kinds := [], alts := [], laidByText := true, laidKinds := [.handle, .sentinel], laidTests := true, laidLooks := .later }
def GroupJoinsUptoCardSaid : Prop := Claim7.holds Tryd.pinned (.plain (OpenSpec.upto groupJoinsSpec)) groupJoinsUptoCard

/-- THE SECOND FORM's CARD OF 'diaeresislaw06.GroupParts'. -/
def groupPartsUptoCard : Claim7 := { stood := { row := groupPartsUptoRow, standIns := [], harness := (true, "e03b11628916a1e1467ca90b19df3ce7e6278579f291c27c4600533edf63bf04"), looks := true }, kinds := [], alts := [], laidByText := true, laidKinds := [.handle, .sentinel], laidTests := true, laidLooks := .later }
def GroupPartsUptoCardSaid : Prop := Claim7.holds Tryd.pinned (.plain (OpenSpec.upto groupPartsSpec)) groupPartsUptoCard

/-- THE SECOND FORM's CARD OF 'diaeresislaw06.GroupPartners'. -/
def groupPartnersUptoCard : Claim7 := { stood := { row := groupPartnersUptoRow, standIns := [], harness := (true, "e03b11628916a1e1467ca90b19df3ce7e6278579f291c27c4600533edf63bf04"), looks := true }, kinds := [], alts := [], laidByText := true, laidKinds := [.handle, .sentinel], laidTests := true, laidLooks := .later }
def GroupPartnersUptoCardSaid : Prop := Claim7.holds Tryd.pinned (.plain (OpenSpec.upto groupPartnersSpec)) groupPartnersUptoCard
end Rows
end Go.Proofs.YtlokkdbgihbnhaaDoor
