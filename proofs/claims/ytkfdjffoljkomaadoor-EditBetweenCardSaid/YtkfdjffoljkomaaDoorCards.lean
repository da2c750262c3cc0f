/-
  DERIVED. GIVEN WITH THE SEED: THE CARDS: each row of YtkfdjffoljkomaaDoorRows.lean that lists a variable, with what it lists TIED to the program's text (the seventh form; the later family's looks); each row that meets fmt, with fmt's text TOLD by the authors' own Lean function (tested against real Go, not proved from fmt's source: count such statements apart). THE CARD IS WHAT COUNTS. Prove the row's statement (the work); the ties are given (YtkfdjffoljkomaaDoorTie.lean); close each card by the builder's one call (the guide's Derived/Test/ToyasCard.lean, 'card_holds'). Laid BY PROGRAM, IN A SANDBOX (cutbox-door.mjs). By AI agents, Wed Nov 11 2026. No macro, syntax, notation, axiom, sorry.
-/
import Derived.Test.YtkfdjffoljkomaaDoorRows
import GoSem.ClaimSeven
namespace Go.Proofs.YtkfdjffoljkomaaDoor
namespace Rows

/-- THE TIED CARD OF 'diaeresislaw16.EditBack'. -/
def editBackCard : Claim7 := { stood := { row := editBackRow, standIns := [], harness := (true, "3c797673db5dd772869a7fa8010040f935e0efe512a2dc362bb97847196f6694"), looks := true }, kinds := [], alts := [], laidByText := true, laidKinds := [.sentinel], laidTests := true, laidLooks := .later }
def EditBackCardSaid : Prop := Claim7.holds Tryd.pinned (.plain (OpenSpec.ofChange editBackSpec)) editBackCard

/-- THE TIED CARD OF 'diaeresislaw16.EditNone'. -/
def editNoneCard : Claim7 := { stood := { row := editNoneRow, standIns := [], harness := (true, "3c797673db5dd772869a7fa8010040f935e0efe512a2dc362bb97847196f6694"), looks := true }, kinds := [], alts := [], laidByText := true, laidKinds := [.sentinel], laidTests := true, laidLooks := .later }
def EditNoneCardSaid : Prop := Claim7.holds Tryd.pinned (.plain (OpenSpec.ofChange editNoneSpec)) editNoneCard

/-- THE TIED CARD OF 'diaeresislaw16.EditApplies'. -/
def editAppliesCard : Claim7 := { stood := { row := editAppliesRow, standIns := [], harness := (true, "3c797673db5dd772869a7fa8010040f935e0efe512a2dc362bb97847196f6694"), looks := true }, kinds := [], alts := [], laidByText := true, laidKinds := [.sentinel], laidTests := true, laidLooks := .later }
def EditAppliesCardSaid : Prop := Claim7.holds Tryd.pinned (.plain (OpenSpec.ofChange editAppliesSpec)) editAppliesCard

/-- THE TIED CARD OF 'diaeresislaw16.EditLeast'. -/
def editLeastCard : Claim7 := { stood := { row := editLeastRow, standIns := [], harness := (true, "3c797673db5dd772869a7fa8010040f935e0efe512a2dc362bb97847196f6694"), looks := true }, kinds := [], alts := [], laidByText := true, laidKinds := [.sentinel], laidTests := true, laidLooks := .later }
def EditLeastCardSaid : Prop := Claim7.holds Tryd.pinned (.plain (OpenSpec.ofChange editLeastSpec)) editLeastCard

/-- THE TIED CARD OF 'diaeresislaw16.EditBetween'. -/
def editBetweenCard : Claim7 := { stood := { row := editBetweenRow, standIns := [], harness := (true, "3c797673db5dd772869a7fa8010040f935e0efe512a2dc362bb97847196f6694"), looks := true }, kinds := [], alts := [], laidByText := true, laidKinds := [.data, .sentinel, .pinned], laidTests := true, laidLooks := .later }
def EditBetweenCardSaid : Prop := Claim7.holds Tryd.pinned (.plain (OpenSpec.ofChange editBetweenSpec)) editBetweenCard

/-- THE TIED CARD OF 'diaeresislaw16.EditMakes'. -/
def editMakesCard : Claim7 := { stood := { row := editMakesRow, standIns := [], harness := (true, "3c797673db5dd772869a7fa8010040f935e0efe512a2dc362bb97847196f6694"), looks := true }, kinds := [], alts := [], laidByText := true, laidKinds := [.data, .sentinel, .pinned], laidTests := true, laidLooks := .later }
def EditMakesCardSaid : Prop := Claim7.holds Tryd.pinned (.plain (OpenSpec.ofChange editMakesSpec)) editMakesCard

/-- THE SECOND FORM's CARD OF 'diaeresislaw16.EditBack'. -/
def editBackUptoCard : Claim7 := { stood := { row := editBackUptoRow, standIns := [], harness := (true, "3c797673db5dd772869a7fa8010040f935e0efe512a2dc362bb97847196f6694"), looks := true }, kinds := [], alts := [], laidByText := true, laidKinds := [.sentinel], laidTests := true, laidLooks := .later }
def EditBackUptoCardSaid : Prop := Claim7.holds Tryd.pinned (.plain (OpenSpec.upto editBackSpec)) editBackUptoCard

/-- THE SECOND FORM's CARD OF 'diaeresislaw16.EditNone'. -/
def editNoneUptoCard : Claim7 := { stood := { row := editNoneUptoRow, standIns := [], harness := (true, "3c797673db5dd772869a7fa8010040f935e0efe512a2dc362bb97847196f6694"), looks := true }, kinds := [], alts := [], laidByText := true, laidKinds := [.sentinel], laidTests := true, laidLooks := .later }
def EditNoneUptoCardSaid : Prop := Claim7.holds Tryd.pinned (.plain (OpenSpec.upto editNoneSpec)) editNoneUptoCard

/-- THE SECOND FORM's CARD OF 'diaeresislaw16.EditApplies'. -/
def editAppliesUptoCard : Claim7 := { stood := { row := editAppliesUptoRow, standIns := [], harness := (true, "3c797673db5dd772869a7fa8010040f935e0efe512a2dc362bb97847196f6694"), looks := true }, kinds := [], alts := [], laidByText := true, laidKinds := [.sentinel], laidTests := true, laidLooks := .later }
def EditAppliesUptoCardSaid : Prop := Claim7.holds Tryd.pinned (.plain (OpenSpec.upto editAppliesSpec)) editAppliesUptoCard

/-- THE SECOND FORM's CARD OF 'diaeresislaw16.EditLeast'. -/
def editLeastUptoCard : Claim7 := { stood := { row := editLeastUptoRow, standIns := [], harness := (true, "3c797673db5dd772869a7fa8010040f935e0efe512a2dc362bb97847196f6694"), looks := true }, kinds := [], alts := [], laidByText := true, laidKinds := [.sentinel], laidTests := true, laidLooks := .later }
def EditLeastUptoCardSaid : Prop := Claim7.holds Tryd.pinned (.plain (OpenSpec.upto editLeastSpec)) editLeastUptoCard

/-- THE SECOND FORM's CARD OF 'diaeresislaw16.EditBetween'. -/
def editBetweenUptoCard : Claim7 := { stood := { row := editBetweenUptoRow, standIns := [], harness := (true, "3c797673db5dd772869a7fa8010040f935e0efe512a2dc362bb97847196f6694"), looks := true }, kinds := [], alts := [], laidByText := true, laidKinds := [.data, .sentinel, .pinned], laidTests := true, laidLooks := .later }
def EditBetweenUptoCardSaid : Prop := Claim7.holds Tryd.pinned (.plain (OpenSpec.upto editBetweenSpec)) editBetweenUptoCard

/-- THE SECOND FORM's CARD OF 'diaeresislaw16.EditMakes'. -/
def editMakesUptoCard : Claim7 := { stood := { row := editMakesUptoRow, standIns := [], harness := (true, "3c797673db5dd772869a7fa8010040f935e0efe512a2dc362bb97847196f6694"), looks := true }, kinds := [], alts := [], laidByText := true, laidKinds := [.data, .sentinel, .pinned], laidTests := true, laidLooks := .later }
def EditMakesUptoCardSaid : Prop := Claim7.holds Tryd.pinned (.plain (OpenSpec.upto editMakesSpec)) editMakesUptoCard
end Rows
end Go.Proofs.YtkfdjffoljkomaaDoor
