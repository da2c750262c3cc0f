/-
  DERIVED. GIVEN WITH THE SEED: THE CARDS: each row of YteojnejomgomjaaDoorRows.lean that lists a variable, with what it lists TIED to the program's text (the seventh form; the later family's looks); each row that meets fmt, with fmt's text TOLD by the authors' own Lean function (tested against real Go, not proved from fmt's source: count such statements apart). THE CARD IS WHAT COUNTS. Prove the row's statement (the work); the ties are given (YteojnejomgomjaaDoorTie.lean); close each card by the builder's one call (the guide's Derived/Test/ToyasCard.lean, 'card_holds'). Laid BY PROGRAM, IN A SANDBOX (cutbox-door.mjs). By AI agents, Wed Nov 11 2026. No macro, syntax, notation, axiom, sorry.
-/
import Derived.Test.YteojnejomgomjaaDoorRows
import GoSem.ClaimSeven
namespace Go.Proofs.YteojnejomgomjaaDoor
namespace Rows

/-- THE TIED CARD OF 'diaeresislaw04.LexAgain'. -/
def lexAgainCard : Claim7 := { stood := { row := lexAgainRow, standIns := [], harness := (true, "3cd0a66b7d73b2f12d8cf59b8e9f1361f371fbfc5d04b5283f8cae015f44f1ce"), looks := false }, kinds := [], alts := [], laidByText := true, laidKinds := [.data, .pinned], laidTests := true, laidLooks := .later }
def LexAgainCardSaid : Prop := Claim7.holds Tryd.pinned (.plain (OpenSpec.ofChange lexAgainSpec)) lexAgainCard

/-- THE TIED CARD OF 'diaeresislaw04.LexNames'. -/
def lexNamesCard : Claim7 := { stood := { row := lexNamesRow, standIns := [], harness := (true, "3cd0a66b7d73b2f12d8cf59b8e9f1361f371fbfc5d04b5283f8cae015f44f1ce"), looks := false }, kinds := [], alts := [], laidByText := true, laidKinds := [.data, .pinned], laidTests := true, laidLooks := .later }
def LexNamesCardSaid : Prop := Claim7.holds Tryd.pinned (.plain (OpenSpec.ofChange lexNamesSpec)) lexNamesCard

/-- THE TIED CARD OF 'diaeresislaw04.LexRest'. -/
def lexRestCard : Claim7 := { stood := { row := lexRestRow, standIns := [], harness := (true, "3cd0a66b7d73b2f12d8cf59b8e9f1361f371fbfc5d04b5283f8cae015f44f1ce"), looks := false }, kinds := [], alts := [], laidByText := true, laidKinds := [.data, .pinned], laidTests := true, laidLooks := .later }
def LexRestCardSaid : Prop := Claim7.holds Tryd.pinned (.plain (OpenSpec.ofChange lexRestSpec)) lexRestCard

/-- THE TIED CARD OF 'diaeresislaw04.LexPlains'. -/
def lexPlainsCard : Claim7 := { stood := { row := lexPlainsRow, standIns := [], harness := (true, "3cd0a66b7d73b2f12d8cf59b8e9f1361f371fbfc5d04b5283f8cae015f44f1ce"), looks := false }, kinds := [], alts := [], laidByText := true, laidKinds := [.data, .pinned], laidTests := true, laidLooks := .later }
def LexPlainsCardSaid : Prop := Claim7.holds Tryd.pinned (.plain (OpenSpec.ofChange lexPlainsSpec)) lexPlainsCard

/-- THE TIED CARD OF 'diaeresislaw04.LexWhole'. -/
def lexWholeCard : Claim7 := { stood := { row := lexWholeRow, standIns := [], harness := (true, "3cd0a66b7d73b2f12d8cf59b8e9f1361f371fbfc5d04b5283f8cae015f44f1ce"), looks := false }, kinds := [], alts := [], laidByText := true, laidKinds := [.data, .pinned], laidTests := true, laidLooks := .later }
def LexWholeCardSaid : Prop := Claim7.holds Tryd.pinned (.plain (OpenSpec.ofChange lexWholeSpec)) lexWholeCard

/-- THE TIED CARD OF 'diaeresislaw04.LexTexts'. -/
def lexTextsCard : Claim7 := { stood := { row := lexTextsRow, standIns := [], harness := (true, "3cd0a66b7d73b2f12d8cf59b8e9f1361f371fbfc5d04b5283f8cae015f44f1ce"), looks := false }, kinds := [], alts := [], laidByText := true, laidKinds := [.data, .pinned], laidTests := true, laidLooks := .later }
def LexTextsCardSaid : Prop := Claim7.holds Tryd.pinned (.plain (OpenSpec.ofChange lexTextsSpec)) lexTextsCard

/-- THE SECOND FORM's CARD OF 'diaeresislaw04.LexAgain'. -/
def lexAgainUptoCard : Claim7 := { stood := { row := lexAgainUptoRow, standIns := [], harness := (true, "3cd0a66b7d73b2f12d8cf59b8e9f1361f371fbfc5d04b5283f8cae015f44f1ce"), looks := false }, kinds := [], alts := [], laidByText := true, laidKinds := [.data, .pinned], laidTests := true, laidLooks := .later }
def LexAgainUptoCardSaid : Prop := Claim7.holds Tryd.pinned (.plain (OpenSpec.upto lexAgainSpec)) lexAgainUptoCard

/-- THE SECOND FORM's CARD OF 'diaeresislaw04.LexNames'. -/
def lexNamesUptoCard : Claim7 := { stood := { row := lexNamesUptoRow, standIns := [], harness := (true, "3cd0a66b7d73b2f12d8cf59b8e9f1361f371fbfc5d04b5283f8cae015f44f1ce"), looks := false }, kinds := [], alts := [], laidByText := true, laidKinds := [.data, .pinned], laidTests := true, laidLooks := .later }
def LexNamesUptoCardSaid : Prop := Claim7.holds Tryd.pinned (.plain (OpenSpec.upto lexNamesSpec)) lexNamesUptoCard

/-- THE SECOND FORM's CARD OF 'diaeresislaw04.LexRest'. -/
def lexRestUptoCard : Claim7 := { stood := { row := lexRestUptoRow, standIns := [], harness := (true, "3cd0a66b7d73b2f12d8cf59b8e9f1361f371fbfc5d04b5283f8cae015f44f1ce"), looks := false }, kinds := [], alts := [], laidByText := true, laidKinds := [.data, .pinned], laidTests := true, laidLooks := .later }
def LexRestUptoCardSaid : Prop := Claim7.holds Tryd.pinned (.plain (OpenSpec.upto lexRestSpec)) lexRestUptoCard

/-- THE SECOND FORM's CARD OF 'diaeresislaw04.LexPlains'. -/
def lexPlainsUptoCard : Claim7 := { stood := { row := lexPlainsUptoRow, standIns := [], harness := (true, "3cd0a66b7d73b2f12d8cf59b8e9f1361f371fbfc5d04b5283f8cae015f44f1ce"), looks := false }, kinds := [], alts := [], laidByText := true, laidKinds := [.data, .pinned], laidTests := true, laidLooks := .later }
def LexPlainsUptoCardSaid : Prop := Claim7.holds Tryd.pinned (.plain (OpenSpec.upto lexPlainsSpec)) lexPlainsUptoCard

/-- THE SECOND FORM's CARD OF 'diaeresislaw04.LexWhole'. -/
def lexWholeUptoCard : Claim7 := { stood := { row := lexWholeUptoRow, standIns := [], harness := (true, "3cd0a66b7d73b2f12d8cf59b8e9f1361f371fbfc5d04b5283f8cae015f44f1ce"), looks := false }, kinds := [], alts := [], laidByText := true, laidKinds := [.data, .pinned], laidTests := true, laidLooks := .later }
def LexWholeUptoCardSaid : Prop := Claim7.holds Tryd.pinned (.plain (OpenSpec.upto lexWholeSpec)) lexWholeUptoCard

/-- THE SECOND FORM's CARD OF 'diaeresislaw04.LexTexts'. -/
def lexTextsUptoCard : Claim7 := { stood := { row := lexTextsUptoRow, standIns := [], harness := (true, "3cd0a66b7d73b2f12d8cf59b8e9f1361f371fbfc5d04b5283f8cae015f44f1ce"), looks := false }, kinds := [], alts := [], laidByText := true, laidKinds := [.data, .pinned], laidTests := true, laidLooks := .later }
def LexTextsUptoCardSaid : Prop := Claim7.holds Tryd.pinned (.plain (OpenSpec.upto lexTextsSpec)) lexTextsUptoCard
end Rows
end Go.Proofs.YteojnejomgomjaaDoor
