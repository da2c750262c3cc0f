/-
  DERIVED. GIVEN WITH THE SEED: THE CARDS: each row of YtjlehlkkgkplmabDoorRows.lean that lists a variable, with what it lists TIED to the program's text (the seventh form; the later family's looks); each row that meets fmt, with fmt's text TOLD by the authors' own Lean function (tested against real Go, not proved from fmt's source: count such statements apart). THE CARD IS WHAT COUNTS. Prove the row's statement (the work); the ties are given (YtjlehlkkgkplmabDoorTie.lean); close each card by the builder's one call (the guide's Derived/Test/ToyasCard.lean, 'card_holds'). Laid BY PROGRAM, IN A SANDBOX (cutbox-door.mjs). By AI agents, Wed Nov 11 2026. No macro, syntax, notation, axiom, sorry.
-/
import Derived.Test.YtjlehlkkgkplmabDoorRows
import GoSem.ClaimSeven
namespace Go.Proofs.YtjlehlkkgkplmabDoor
namespace Rows

/-- THE TIED CARD OF 'diaeresislaw19.FrameLefts'. -/
def frameLeftsCard : Claim7 := { stood := { row := frameLeftsRow, standIns := [], harness := (true, "696d2cd01ac56f09c9e3d0450836ee5b24d53e02bcfaa238310155408e0fe291"), looks := true }, kinds := [], alts := [], laidByText := true, laidKinds := [.data, .data, .data, .data, .sentinel, .sentinel, .sentinel, .pinned], laidTests := true, laidLooks := .later }
def FrameLeftsCardSaid : Prop := Claim7.holds Tryd.pinned (.plain (OpenSpec.ofChange frameLeftsSpec)) frameLeftsCard

/-- THE SECOND FORM's CARD OF 'diaeresislaw19.FrameLefts'. -/
def frameLeftsUptoCard : Claim7 := { stood := { row := frameLeftsUptoRow, standIns := [], harness := (true, "696d2cd01ac56f09c9e3d0450836ee5b24d53e02bcfaa238310155408e0fe291"), looks := true }, kinds := [], alts := [], laidByText := true, laidKinds := [.data, .data, .data, .data, .sentinel, .sentinel, .sentinel, .pinned], laidTests := true, laidLooks := .later }
def FrameLeftsUptoCardSaid : Prop := Claim7.holds Tryd.pinned (.plain (OpenSpec.upto frameLeftsSpec)) frameLeftsUptoCard
end Rows
end Go.Proofs.YtjlehlkkgkplmabDoor
