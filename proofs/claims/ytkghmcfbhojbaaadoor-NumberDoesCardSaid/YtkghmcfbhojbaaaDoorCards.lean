/-
  DERIVED. GIVEN WITH THE SEED: THE CARDS: each row of YtkghmcfbhojbaaaDoorRows.lean that lists a variable, with what it lists TIED to the program's text (the seventh form; the later family's looks); each row that meets fmt, with fmt's text TOLD by the authors' own Lean function (tested against real Go, not proved from fmt's source: count such statements apart). THE CARD IS WHAT COUNTS. Prove the row's statement (the work); the ties are given (YtkghmcfbhojbaaaDoorTie.lean); close each card by the builder's one call (the guide's Derived/Test/ToyasCard.lean, 'card_holds'). Laid BY PROGRAM, IN A SANDBOX (cutbox-door.mjs). By AI agents, Wed Nov 11 2026. No macro, syntax, notation, axiom, sorry.
-/
import Derived.Test.YtkghmcfbhojbaaaDoorRows
import GoSem.ClaimSeven
namespace Go.Proofs.YtkghmcfbhojbaaaDoor
namespace Rows

/-- THE TIED CARD OF 'diaeresislaw10.NumberBack'. -/
def numberBackCard : Claim7 := { stood := { row := numberBackRow, standIns := [], harness := (true, "6d5dd97ab5e1a03b4d1396125c35a22c0a0a9f81840e9d43588620e80da91c8a"), looks := true }, kinds := [], alts := [], laidByText := true, laidKinds := [.handle, .sentinel, .sentinel], laidTests := true, laidLooks := .later }
def NumberBackCardSaid : Prop := Claim7.holds Tryd.pinned (.plain (OpenSpec.ofChange numberBackSpec)) numberBackCard

/-- THE TIED CARD OF 'diaeresislaw10.NumberResidues'. -/
def numberResiduesCard : Claim7 := { stood := { row := numberResiduesRow, standIns := [], harness := (true, "6d5dd97ab5e1a03b4d1396125c35a22c0a0a9f81840e9d43588620e80da91c8a"), looks := true }, kinds := [], alts := [], laidByText := true, laidKinds := [.handle, .sentinel, .sentinel], laidTests := true, laidLooks := .later }
def NumberResiduesCardSaid : Prop := Claim7.holds Tryd.pinned (.plain (OpenSpec.ofChange numberResiduesSpec)) numberResiduesCard

/-- THE TIED CARD OF 'diaeresislaw10.NumberOrders'. -/
def numberOrdersCard : Claim7 := { stood := { row := numberOrdersRow, standIns := [], harness := (true, "6d5dd97ab5e1a03b4d1396125c35a22c0a0a9f81840e9d43588620e80da91c8a"), looks := true }, kinds := [], alts := [], laidByText := true, laidKinds := [.handle, .sentinel, .sentinel], laidTests := true, laidLooks := .later }
def NumberOrdersCardSaid : Prop := Claim7.holds Tryd.pinned (.plain (OpenSpec.ofChange numberOrdersSpec)) numberOrdersCard

/-- THE TIED CARD OF 'diaeresislaw10.NumberSigns'. -/
def numberSignsCard : Claim7 := { stood := { row := numberSignsRow, standIns := [], harness := (true, "6d5dd97ab5e1a03b4d1396125c35a22c0a0a9f81840e9d43588620e80da91c8a"), looks := true }, kinds := [], alts := [], laidByText := true, laidKinds := [.handle, .sentinel, .sentinel], laidTests := true, laidLooks := .later }
def NumberSignsCardSaid : Prop := Claim7.holds Tryd.pinned (.plain (OpenSpec.ofChange numberSignsSpec)) numberSignsCard

/-- THE TIED CARD OF 'diaeresislaw10.NumberLogic'. -/
def numberLogicCard : Claim7 := { stood := { row := numberLogicRow, standIns := [], harness := (true, "6d5dd97ab5e1a03b4d1396125c35a22c0a0a9f81840e9d43588620e80da91c8a"), looks := true }, kinds := [], alts := [], laidByText := true, laidKinds := [.handle, .sentinel, .sentinel], laidTests := true, laidLooks := .later }
def NumberLogicCardSaid : Prop := Claim7.holds Tryd.pinned (.plain (OpenSpec.ofChange numberLogicSpec)) numberLogicCard

/-- THE TIED CARD OF 'diaeresislaw10.NumberDoes'. -/
def numberDoesCard : Claim7 := { stood := { row := numberDoesRow, standIns := [], harness := (true, "6d5dd97ab5e1a03b4d1396125c35a22c0a0a9f81840e9d43588620e80da91c8a"), looks := true }, kinds := [], alts := [], laidByText := true, laidKinds := [.handle, .sentinel, .sentinel], laidTests := true, laidLooks := .later }
def NumberDoesCardSaid : Prop := Claim7.holds Tryd.pinned (.plain (OpenSpec.ofChange numberDoesSpec)) numberDoesCard

/-- THE SECOND FORM's CARD OF 'diaeresislaw10.NumberBack'. -/
def numberBackUptoCard : Claim7 := { stood := { row := numberBackUptoRow, standIns := [], harness := (true, "6d5dd97ab5e1a03b4d1396125c35a22c0a0a9f81840e9d43588620e80da91c8a"), looks := true }, kinds := [], alts := [], laidByText := true, laidKinds := [.handle, .sentinel, .sentinel], laidTests := true, laidLooks := .later }
def NumberBackUptoCardSaid : Prop := Claim7.holds Tryd.pinned (.plain (OpenSpec.upto numberBackSpec)) numberBackUptoCard

/-- THE SECOND FORM's CARD OF 'diaeresislaw10.NumberResidues'. -/
def numberResiduesUptoCard : Claim7 := { stood := { row := numberResiduesUptoRow, standIns := [], harness := (true, "6d5dd97ab5e1a03b4d1396125c35a22c0a0a9f81840e9d43588620e80da91c8a"), looks := true }, kinds := [], alts := [], laidByText := true, laidKinds := [.handle, .sentinel, .sentinel], laidTests := true, laidLooks := .later }
def NumberResiduesUptoCardSaid : Prop := Claim7.holds Tryd.pinned (.plain (OpenSpec.upto numberResiduesSpec)) numberResiduesUptoCard

/-- THE SECOND FORM's CARD OF 'diaeresislaw10.NumberOrders'. -/
def numberOrdersUptoCard : Claim7 := { stood := { row := numberOrdersUptoRow, standIns := [], harness := (true, "6d5dd97ab5e1a03b4d1396125c35a22c0a0a9f81840e9d43588620e80da91c8a"), looks := true }, kinds := [], alts := [], laidByText := true, laidKinds := [.handle, .sentinel, .sentinel], laidTests := true, laidLooks := .later }
def NumberOrdersUptoCardSaid : Prop := Claim7.holds Tryd.pinned (.plain (OpenSpec.upto numberOrdersSpec)) numberOrdersUptoCard

/-- THE SECOND FORM's CARD OF 'diaeresislaw10.NumberSigns'. -/
def numberSignsUptoCard : Claim7 := { stood := { row := numberSignsUptoRow, standIns := [], harness := (true, "6d5dd97ab5e1a03b4d1396125c35a22c0a0a9f81840e9d43588620e80da91c8a"), looks := true }, kinds := [], alts := [], laidByText := true, laidKinds := [.handle, .sentinel, .sentinel], laidTests := true, laidLooks := .later }
def NumberSignsUptoCardSaid : Prop := Claim7.holds Tryd.pinned (.plain (OpenSpec.upto numberSignsSpec)) numberSignsUptoCard

/-- THE SECOND FORM's CARD OF 'diaeresislaw10.NumberLogic'. -/
def numberLogicUptoCard : Claim7 := { stood := { row := numberLogicUptoRow, standIns := [], harness := (true, "6d5dd97ab5e1a03b4d1396125c35a22c0a0a9f81840e9d43588620e80da91c8a"), looks := true }, kinds := [], alts := [], laidByText := true, laidKinds := [.handle, .sentinel, .sentinel], laidTests := true, laidLooks := .later }
def NumberLogicUptoCardSaid : Prop := Claim7.holds Tryd.pinned (.plain (OpenSpec.upto numberLogicSpec)) numberLogicUptoCard

/-- THE SECOND FORM's CARD OF 'diaeresislaw10.NumberDoes'. -/
def numberDoesUptoCard : Claim7 := { stood := { row := numberDoesUptoRow, standIns := [], harness := (true, "6d5dd97ab5e1a03b4d1396125c35a22c0a0a9f81840e9d43588620e80da91c8a"), looks := true }, kinds := [], alts := [], laidByText := true, laidKinds := [.handle, .sentinel, .sentinel], laidTests := true, laidLooks := .later }
def NumberDoesUptoCardSaid : Prop := Claim7.holds Tryd.pinned (.plain (OpenSpec.upto numberDoesSpec)) numberDoesUptoCard
end Rows
end Go.Proofs.YtkghmcfbhojbaaaDoor
