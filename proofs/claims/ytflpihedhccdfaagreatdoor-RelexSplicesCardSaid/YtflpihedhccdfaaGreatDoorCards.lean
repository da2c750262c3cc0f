/-
  DERIVED. GIVEN WITH THE SEED: THE CARDS: each row of YtflpihedhccdfaaGreatDoorRows.lean that lists a variable, with what it lists TIED to the program's text (the seventh form; the later family's looks); each row that meets fmt, with fmt's text TOLD by the authors' own Lean function (tested against real Go, not proved from fmt's source: count such statements apart). THE CARD IS WHAT COUNTS. Prove the row's statement (the work); the ties are given (YtflpihedhccdfaaGreatDoorTie.lean); close each card by the builder's one call (the guide's Derived/Test/ToyasCard.lean, 'card_holds'). Laid BY PROGRAM, IN A SANDBOX (cutbox-door.mjs). By AI agents, Wed Nov 11 2026. No macro, syntax, notation, axiom, sorry.
-/
import Derived.Test.YtflpihedhccdfaaGreatDoorRows
import GoSem.ClaimSeven
namespace Go.Proofs.YtflpihedhccdfaaGreatDoor
namespace Rows

/-- THE TIED CARD OF 'diaeresislaw05.RelexKeeps'. -/
def relexKeepsCard : Claim7 := { stood := { row := relexKeepsRow, standIns := [], harness := (true, "6344d5a42d22998476bcd10189c310b439dea5b2c0a7f21040e8ae194b302a91"), looks := true }, kinds := [], alts := [], laidByText := true, laidKinds := [.data, .sentinel, .sentinel, .pinned], laidTests := true, laidLooks := .later }
def RelexKeepsCardSaid : Prop := Claim7.holds Tryz.pinned (.plain (OpenSpec.ofChange relexKeepsSpec)) relexKeepsCard

/-- THE TIED CARD OF 'diaeresislaw05.RelexFew'. -/
def relexFewCard : Claim7 := { stood := { row := relexFewRow, standIns := [], harness := (true, "6344d5a42d22998476bcd10189c310b439dea5b2c0a7f21040e8ae194b302a91"), looks := true }, kinds := [], alts := [], laidByText := true, laidKinds := [.data, .sentinel, .sentinel, .pinned], laidTests := true, laidLooks := .later }
def RelexFewCardSaid : Prop := Claim7.holds Tryz.pinned (.plain (OpenSpec.ofChange relexFewSpec)) relexFewCard

/-- THE TIED CARD OF 'diaeresislaw05.RelexSplices'. -/
def relexSplicesCard : Claim7 := { stood := { row := relexSplicesRow, standIns := [], harness := (true, "6344d5a42d22998476bcd10189c310b439dea5b2c0a7f21040e8ae194b302a91"), looks := true }, kinds := [], alts := [], laidByText := true, laidKinds := [.data, .sentinel, .sentinel, .pinned], laidTests := true, laidLooks := .later }
def RelexSplicesCardSaid : Prop := Claim7.holds Tryz.pinned (.plain (OpenSpec.ofChange relexSplicesSpec)) relexSplicesCard

/-- THE TIED CARD OF 'diaeresislaw05.RelexWhole'. -/
def relexWholeCard : Claim7 := { stood := { row := relexWholeRow, standIns := [], harness := (true, "6344d5a42d22998476bcd10189c310b439dea5b2c0a7f21040e8ae194b302a91"), looks := true }, kinds := [], alts := [], laidByText := true, laidKinds := [.data, .sentinel, .sentinel, .pinned], laidTests := true, laidLooks := .later }
def RelexWholeCardSaid : Prop := Claim7.holds Tryz.pinned (.plain (OpenSpec.ofChange relexWholeSpec)) relexWholeCard

/-- THE TIED CARD OF 'diaeresislaw05.RelexNone'. -/
def relexNoneCard : Claim7 := { stood := { row := relexNoneRow, standIns := [], harness := (true, "6344d5a42d22998476bcd10189c310b439dea5b2c0a7f21040e8ae194b302a91"), looks := true }, kinds := [], alts := [], laidByText := true, laidKinds := [.data, .sentinel, .sentinel, .pinned], laidTests := true, laidLooks := .later }
def RelexNoneCardSaid : Prop := Claim7.holds Tryz.pinned (.plain (OpenSpec.ofChange relexNoneSpec)) relexNoneCard

/-- THE TIED CARD OF 'diaeresislaw05.RelexJoins'. -/
def relexJoinsCard : Claim7 := { stood := { row := relexJoinsRow, standIns := [], harness := (true, "6344d5a42d22998476bcd10189c310b439dea5b2c0a7f21040e8ae194b302a91"), looks := true }, kinds := [], alts := [], laidByText := true, laidKinds := [.data, .sentinel, .sentinel, .pinned], laidTests := true, laidLooks := .later }
def RelexJoinsCardSaid : Prop := Claim7.holds Tryz.pinned (.plain (OpenSpec.ofChange relexJoinsSpec)) relexJoinsCard

/-- THE SECOND FORM's CARD OF 'diaeresislaw05.RelexKeeps'. -/
def relexKeepsUptoCard : Claim7 := { stood := { row := relexKeepsUptoRow, standIns := [], harness := (true, "6344d5a42d22998476bcd10189c310b439dea5b2c0a7f21040e8ae194b302a91"), looks := true }, kinds := [], alts := [], laidByText := true, laidKinds := [.data, .sentinel, .sentinel, .pinned], laidTests := true, laidLooks := .later }
def RelexKeepsUptoCardSaid : Prop := Claim7.holds Tryz.pinned (.plain (OpenSpec.upto relexKeepsSpec)) relexKeepsUptoCard

/-- THE SECOND FORM's CARD OF 'diaeresislaw05.RelexFew'. -/
def relexFewUptoCard : Claim7 := { stood := { row := relexFewUptoRow, standIns := [], harness := (true, "6344d5a42d22998476bcd10189c310b439dea5b2c0a7f21040e8ae194b302a91"), looks := true }, kinds := [], alts := [], laidByText := true, laidKinds := [.data, .sentinel, .sentinel, .pinned], laidTests := true, laidLooks := .later }
def RelexFewUptoCardSaid : Prop := Claim7.holds Tryz.pinned (.plain (OpenSpec.upto relexFewSpec)) relexFewUptoCard

/-- THE SECOND FORM's CARD OF 'diaeresislaw05.RelexSplices'. -/
def relexSplicesUptoCard : Claim7 := { stood := { row := relexSplicesUptoRow, standIns := [], harness := (true, "6344d5a42d22998476bcd10189c310b439dea5b2c0a7f21040e8ae194b302a91"), looks := true }, kinds := [], alts := [], laidByText := true, laidKinds := [.data, .sentinel, .sentinel, .pinned], laidTests := true, laidLooks := .later }
def RelexSplicesUptoCardSaid : Prop := Claim7.holds Tryz.pinned (.plain (OpenSpec.upto relexSplicesSpec)) relexSplicesUptoCard

/-- THE SECOND FORM's CARD OF 'diaeresislaw05.RelexWhole'. -/
def relexWholeUptoCard : Claim7 := { stood := { row := relexWholeUptoRow, standIns := [], harness := (true, "6344d5a42d22998476bcd10189c310b439dea5b2c0a7f21040e8ae194b302a91"), looks := true }, kinds := [], alts := [], laidByText := true, laidKinds := [.data, .sentinel, .sentinel, .pinned], laidTests := true, laidLooks := .later }
def RelexWholeUptoCardSaid : Prop := Claim7.holds Tryz.pinned (.plain (OpenSpec.upto relexWholeSpec)) relexWholeUptoCard

/-- THE SECOND FORM's CARD OF 'diaeresislaw05.RelexNone'. -/
def relexNoneUptoCard : Claim7 := { stood := { row := relexNoneUptoRow, standIns := [], harness := (true, "6344d5a42d22998476bcd10189c310b439dea5b2c0a7f21040e8ae194b302a91"), looks := true }, kinds := [], alts := [], laidByText := true, laidKinds := [.data, .sentinel, .sentinel, .pinned], laidTests := true, laidLooks := .later }
def RelexNoneUptoCardSaid : Prop := Claim7.holds Tryz.pinned (.plain (OpenSpec.upto relexNoneSpec)) relexNoneUptoCard

/-- THE SECOND FORM's CARD OF 'diaeresislaw05.RelexJoins'. -/
def relexJoinsUptoCard : Claim7 := { stood := { row := relexJoinsUptoRow, standIns := [], harness := (true, "6344d5a42d22998476bcd10189c310b439dea5b2c0a7f21040e8ae194b302a91"), looks := true }, kinds := [], alts := [], laidByText := true, laidKinds := [.data, .sentinel, .sentinel, .pinned], laidTests := true, laidLooks := .later }
def RelexJoinsUptoCardSaid : Prop := Claim7.holds Tryz.pinned (.plain (OpenSpec.upto relexJoinsSpec)) relexJoinsUptoCard
end Rows
end Go.Proofs.YtflpihedhccdfaaGreatDoor
