/-
  DERIVED. GIVEN WITH THE SEED: THE CARDS: each row of YtbcgdkhkljeomaaDoorRows.lean that lists a variable, with what it lists TIED to the program's text (the seventh form; the later family's looks); each row that meets fmt, with fmt's text TOLD by the authors' own Lean function (tested against real Go, not proved from fmt's source: count such statements apart). THE CARD IS WHAT COUNTS. Prove the row's statement (the work); the ties are given (YtbcgdkhkljeomaaDoorTie.lean); close each card by the builder's one call (the guide's Derived/Test/ToyasCard.lean, 'card_holds'). Laid BY PROGRAM, IN A SANDBOX (cutbox-door.mjs). By AI agents, Wed Nov 11 2026. No macro, syntax, notation, axiom, sorry.
-/
import Derived.Test.YtbcgdkhkljeomaaDoorRows
import GoSem.ClaimSeven
namespace Go.Proofs.YtbcgdkhkljeomaaDoor
namespace Rows

/-- THE TIED CARD OF 'diaeresislaw07.NodeJoins'. -/
def nodeJoinsCard : Claim7 := { stood := { row := nodeJoinsRow, standIns := [], harness := (true, "feabe1472cfc9a2873633a5d42463ad176381fb1b13e1f19f73fd1dc84f4b720"), looks := true }, kinds := [], alts := [], laidByText := true, laidKinds := [.data, .data, .data, .sentinel], laidTests := true, laidLooks := .later }
def NodeJoinsCardSaid : Prop := Claim7.holds Tryd.pinned (.plain (OpenSpec.ofChange nodeJoinsSpec)) nodeJoinsCard

/-- THE TIED CARD OF 'diaeresislaw07.NodeOwn'. -/
def nodeOwnCard : Claim7 := { stood := { row := nodeOwnRow, standIns := [], harness := (true, "feabe1472cfc9a2873633a5d42463ad176381fb1b13e1f19f73fd1dc84f4b720"), looks := true }, kinds := [], alts := [], laidByText := true, laidKinds := [.data, .data, .data, .sentinel], laidTests := true, laidLooks := .later }
def NodeOwnCardSaid : Prop := Claim7.holds Tryd.pinned (.plain (OpenSpec.ofChange nodeOwnSpec)) nodeOwnCard

/-- THE TIED CARD OF 'diaeresislaw07.NodeLeaves'. -/
def nodeLeavesCard : Claim7 := { stood := { row := nodeLeavesRow, standIns := [], harness := (true, "feabe1472cfc9a2873633a5d42463ad176381fb1b13e1f19f73fd1dc84f4b720"), looks := true }, kinds := [], alts := [], laidByText := true, laidKinds := [.data, .data, .data, .sentinel], laidTests := true, laidLooks := .later }
def NodeLeavesCardSaid : Prop := Claim7.holds Tryd.pinned (.plain (OpenSpec.ofChange nodeLeavesSpec)) nodeLeavesCard

/-- THE TIED CARD OF 'diaeresislaw07.NodeTells'. -/
def nodeTellsCard : Claim7 := { stood := { row := nodeTellsRow, standIns := [], harness := (true, "feabe1472cfc9a2873633a5d42463ad176381fb1b13e1f19f73fd1dc84f4b720"), looks := true }, kinds := [], alts := [], laidByText := true, laidKinds := [.data, .data, .data, .sentinel], laidTests := true, laidLooks := .later }
def NodeTellsCardSaid : Prop := Claim7.holds Tryd.pinned (.plain (OpenSpec.ofChange nodeTellsSpec)) nodeTellsCard

/-- THE TIED CARD OF 'diaeresislaw07.NodeBack'. -/
def nodeBackCard : Claim7 := { stood := { row := nodeBackRow, standIns := [], harness := (true, "feabe1472cfc9a2873633a5d42463ad176381fb1b13e1f19f73fd1dc84f4b720"), looks := true }, kinds := [], alts := [], laidByText := true, laidKinds := [.data, .data, .data, .sentinel], laidTests := true, laidLooks := .later }
def NodeBackCardSaid : Prop := Claim7.holds Tryd.pinned (.plain (OpenSpec.ofChange nodeBackSpec)) nodeBackCard

/-- THE TIED CARD OF 'diaeresislaw07.NodeShows'. -/
def nodeShowsCard : Claim7 := { stood := { row := nodeShowsRow, standIns := [], harness := (true, "feabe1472cfc9a2873633a5d42463ad176381fb1b13e1f19f73fd1dc84f4b720"), looks := true }, kinds := [], alts := [], laidByText := true, laidKinds := [.data, .data, .data, .sentinel], laidTests := true, laidLooks := .later }
def NodeShowsCardSaid : Prop := Claim7.holds Tryd.pinned (.plain (OpenSpec.ofChange nodeShowsSpec)) nodeShowsCard

/-- THE SECOND FORM's CARD OF 'diaeresislaw07.NodeJoins'. -/
def nodeJoinsUptoCard : Claim7 := { stood := { row := nodeJoinsUptoRow, standIns := [], harness := (true, "feabe1472cfc9a2873633a5d42463ad176381fb1b13e1f19f73fd1dc84f4b720"), looks := true }, kinds := [], alts := [], laidByText := true, laidKinds := [.data, .data, .data, .sentinel], laidTests := true, laidLooks := .later }
def NodeJoinsUptoCardSaid : Prop := Claim7.holds Tryd.pinned (.plain (OpenSpec.upto nodeJoinsSpec)) nodeJoinsUptoCard

/-- THE SECOND FORM's CARD OF 'diaeresislaw07.NodeOwn'. -/
def nodeOwnUptoCard : Claim7 := { stood := { row := nodeOwnUptoRow, standIns := [], harness := (true, "feabe1472cfc9a2873633a5d42463ad176381fb1b13e1f19f73fd1dc84f4b720"), looks := true }, kinds := [], alts := [], laidByText := true, laidKinds := [.data, .data, .data, .sentinel], laidTests := true, laidLooks := .later }
def NodeOwnUptoCardSaid : Prop := Claim7.holds Tryd.pinned (.plain (OpenSpec.upto nodeOwnSpec)) nodeOwnUptoCard

/-- THE SECOND FORM's CARD OF 'diaeresislaw07.NodeLeaves'. -/
def nodeLeavesUptoCard : Claim7 := { stood := { row := nodeLeavesUptoRow, standIns := [], harness := (true, "feabe1472cfc9a2873633a5d42463ad176381fb1b13e1f19f73fd1dc84f4b720"), looks := true }, kinds := [], alts := [], laidByText := true, laidKinds := [.data, .data, .data, .sentinel], laidTests := true, laidLooks := .later }
def NodeLeavesUptoCardSaid : Prop := Claim7.holds Tryd.pinned (.plain (OpenSpec.upto nodeLeavesSpec)) nodeLeavesUptoCard

/-- THE SECOND FORM's CARD OF 'diaeresislaw07.NodeTells'. -/
def nodeTellsUptoCard : Claim7 := { stood := { row := nodeTellsUptoRow, standIns := [], harness := (true, "feabe1472cfc9a2873633a5d42463ad176381fb1b13e1f19f73fd1dc84f4b720"), looks := true }, kinds := [], alts := [], laidByText := true, laidKinds := [.data, .data, .data, .sentinel], laidTests := true, laidLooks := .later }
def NodeTellsUptoCardSaid : Prop := Claim7.holds Tryd.pinned (.plain (OpenSpec.upto nodeTellsSpec)) nodeTellsUptoCard

/-- THE SECOND FORM's CARD OF 'diaeresislaw07.NodeBack'. -/
def nodeBackUptoCard : Claim7 := { stood := { row := nodeBackUptoRow, standIns := [], harness := (true, "feabe1472cfc9a2873633a5d42463ad176381fb1b13e1f19f73fd1dc84f4b720"), looks := true }, kinds := [], alts := [], laidByText := true, laidKinds := [.data, .data, .data, .sentinel], laidTests := true, laidLooks := .later }
def NodeBackUptoCardSaid : Prop := Claim7.holds Tryd.pinned (.plain (OpenSpec.upto nodeBackSpec)) nodeBackUptoCard

/-- THE SECOND FORM's CARD OF 'diaeresislaw07.NodeShows'. -/
def nodeShowsUptoCard : Claim7 := { stood := { row := nodeShowsUptoRow, standIns := [], harness := (true, "feabe1472cfc9a2873633a5d42463ad176381fb1b13e1f19f73fd1dc84f4b720"), looks := true }, kinds := [], alts := [], laidByText := true, laidKinds := [.data, .data, .data, .sentinel], laidTests := true, laidLooks := .later }
def NodeShowsUptoCardSaid : Prop := Claim7.holds Tryd.pinned (.plain (OpenSpec.upto nodeShowsSpec)) nodeShowsUptoCard
end Rows
end Go.Proofs.YtbcgdkhkljeomaaDoor
