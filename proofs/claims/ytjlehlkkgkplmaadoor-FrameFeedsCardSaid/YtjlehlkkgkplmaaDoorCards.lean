/-
  DERIVED. GIVEN WITH THE SEED: THE CARDS: each row of YtjlehlkkgkplmaaDoorRows.lean that lists a variable, with what it lists TIED to the program's text (the seventh form; the later family's looks); each row that meets fmt, with fmt's text TOLD by the authors' own Lean function (tested against real Go, not proved from fmt's source: count such statements apart). THE CARD IS WHAT COUNTS. Prove the row's statement (the work); the ties are given (YtjlehlkkgkplmaaDoorTie.lean); close each card by the builder's one call (the guide's Derived/Test/ToyasCard.lean, 'card_holds'). Laid BY PROGRAM, IN A SANDBOX (cutbox-door.mjs). By AI agents, Wed Nov 11 2026. No macro, syntax, notation, axiom, sorry.
-/
import Derived.Test.YtjlehlkkgkplmaaDoorRows
import GoSem.ClaimSeven
namespace Go.Proofs.YtjlehlkkgkplmaaDoor
namespace Rows

/-- THE TIED CARD OF 'diaeresislaw19.FrameSplits'. -/
def frameSplitsCard : Claim7 := { stood := { row := frameSplitsRow, standIns := [], harness := (true, "4fa858865a6e1d0989ffa456690831af2925ae1095d99d30db3ab4fefd597ad0"), looks := true }, kinds := [], alts := [], laidByText := true, laidKinds := [.data, .data, .data, .data, .sentinel, .sentinel, .sentinel, .pinned], laidTests := true, laidLooks := .later }
def FrameSplitsCardSaid : Prop := Claim7.holds Tryd.pinned (.plain (OpenSpec.ofChange frameSplitsSpec)) frameSplitsCard

/-- THE TIED CARD OF 'diaeresislaw19.FrameFeeds'. -/
def frameFeedsCard : Claim7 := { stood := { row := frameFeedsRow, standIns := [], harness := (true, "4fa858865a6e1d0989ffa456690831af2925ae1095d99d30db3ab4fefd597ad0"), looks := true }, kinds := [], alts := [], laidByText := true, laidKinds := [.data, .data, .data, .data, .sentinel, .sentinel, .sentinel, .pinned], laidTests := true, laidLooks := .later }
def FrameFeedsCardSaid : Prop := Claim7.holds Tryd.pinned (.plain (OpenSpec.ofChange frameFeedsSpec)) frameFeedsCard

/-- THE TIED CARD OF 'diaeresislaw19.FrameCuts'. -/
def frameCutsCard : Claim7 := { stood := { row := frameCutsRow, standIns := [], harness := (true, "4fa858865a6e1d0989ffa456690831af2925ae1095d99d30db3ab4fefd597ad0"), looks := true }, kinds := [], alts := [], laidByText := true, laidKinds := [.data, .data, .data, .data, .sentinel, .sentinel, .sentinel, .pinned], laidTests := true, laidLooks := .later }
def FrameCutsCardSaid : Prop := Claim7.holds Tryd.pinned (.plain (OpenSpec.ofChange frameCutsSpec)) frameCutsCard

/-- THE TIED CARD OF 'diaeresislaw19.FrameBack'. -/
def frameBackCard : Claim7 := { stood := { row := frameBackRow, standIns := [], harness := (true, "4fa858865a6e1d0989ffa456690831af2925ae1095d99d30db3ab4fefd597ad0"), looks := true }, kinds := [], alts := [], laidByText := true, laidKinds := [.data, .data, .data, .data, .sentinel, .sentinel, .sentinel, .pinned], laidTests := true, laidLooks := .later }
def FrameBackCardSaid : Prop := Claim7.holds Tryd.pinned (.plain (OpenSpec.ofChange frameBackSpec)) frameBackCard

/-- THE TIED CARD OF 'diaeresislaw19.FrameNone'. -/
def frameNoneCard : Claim7 := { stood := { row := frameNoneRow, standIns := [], harness := (true, "4fa858865a6e1d0989ffa456690831af2925ae1095d99d30db3ab4fefd597ad0"), looks := true }, kinds := [], alts := [], laidByText := true, laidKinds := [.data, .data, .data, .data, .sentinel, .sentinel, .sentinel, .pinned], laidTests := true, laidLooks := .later }
def FrameNoneCardSaid : Prop := Claim7.holds Tryd.pinned (.plain (OpenSpec.ofChange frameNoneSpec)) frameNoneCard

/-- THE TIED CARD OF 'diaeresislaw19.FrameSizes'. -/
def frameSizesCard : Claim7 := { stood := { row := frameSizesRow, standIns := [], harness := (true, "4fa858865a6e1d0989ffa456690831af2925ae1095d99d30db3ab4fefd597ad0"), looks := true }, kinds := [], alts := [], laidByText := true, laidKinds := [.data, .data, .data, .data, .sentinel, .sentinel, .sentinel, .pinned], laidTests := true, laidLooks := .later }
def FrameSizesCardSaid : Prop := Claim7.holds Tryd.pinned (.plain (OpenSpec.ofChange frameSizesSpec)) frameSizesCard

/-- THE SECOND FORM's CARD OF 'diaeresislaw19.FrameSplits'. -/
def frameSplitsUptoCard : Claim7 := { stood := { row := frameSplitsUptoRow, standIns := [], harness := (true, "4fa858865a6e1d0989ffa456690831af2925ae1095d99d30db3ab4fefd597ad0"), looks := true }, kinds := [], alts := [], laidByText := true, laidKinds := [.data, .data, .data, .data, .sentinel, .sentinel, .sentinel, .pinned], laidTests := true, laidLooks := .later }
def FrameSplitsUptoCardSaid : Prop := Claim7.holds Tryd.pinned (.plain (OpenSpec.upto frameSplitsSpec)) frameSplitsUptoCard

/-- THE SECOND FORM's CARD OF 'diaeresislaw19.FrameFeeds'. -/
def frameFeedsUptoCard : Claim7 := { stood := { row := frameFeedsUptoRow, standIns := [], harness := (true, "4fa858865a6e1d0989ffa456690831af2925ae1095d99d30db3ab4fefd597ad0"), looks := true }, kinds := [], alts := [], laidByText := true, laidKinds := [.data, .data, .data, .data, .sentinel, .sentinel, .sentinel, .pinned], laidTests := true, laidLooks := .later }
def FrameFeedsUptoCardSaid : Prop := Claim7.holds Tryd.pinned (.plain (OpenSpec.upto frameFeedsSpec)) frameFeedsUptoCard

/-- THE SECOND FORM's CARD OF 'diaeresislaw19.FrameCuts'. -/
def frameCutsUptoCard : Claim7 := { stood := { row := frameCutsUptoRow, standIns := [], harness := (true, "4fa858865a6e1d0989ffa456690831af2925ae1095d99d30db3ab4fefd597ad0"), looks := true }, kinds := [], alts := [], laidByText := true, laidKinds := [.data, .data, .data, .data, .sentinel, .sentinel, .sentinel, .pinned], laidTests := true, laidLooks := .later }
def FrameCutsUptoCardSaid : Prop := Claim7.holds Tryd.pinned (.plain (OpenSpec.upto frameCutsSpec)) frameCutsUptoCard

/-- THE SECOND FORM's CARD OF 'diaeresislaw19.FrameBack'. -/
def frameBackUptoCard : Claim7 := { stood := { row := frameBackUptoRow, standIns := [], harness := (true, "4fa858865a6e1d0989ffa456690831af2925ae1095d99d30db3ab4fefd597ad0"), looks := true }, kinds := [], alts := [], laidByText := true, laidKinds := [.data, .data, .data, .data, .sentinel, .sentinel, .sentinel, .pinned], laidTests := true, laidLooks := .later }
def FrameBackUptoCardSaid : Prop := Claim7.holds Tryd.pinned (.plain (OpenSpec.upto frameBackSpec)) frameBackUptoCard

/-- THE SECOND FORM's CARD OF 'diaeresislaw19.FrameNone'. -/
def frameNoneUptoCard : Claim7 := { stood := { row := frameNoneUptoRow, standIns := [], harness := (true, "4fa858865a6e1d0989ffa456690831af2925ae1095d99d30db3ab4fefd597ad0"), looks := true }, kinds := [], alts := [], laidByText := true, laidKinds := [.data, .data, .data, .data, .sentinel, .sentinel, .sentinel, .pinned], laidTests := true, laidLooks := .later }
def FrameNoneUptoCardSaid : Prop := Claim7.holds Tryd.pinned (.plain (OpenSpec.upto frameNoneSpec)) frameNoneUptoCard

/-- THE SECOND FORM's CARD OF 'diaeresislaw19.FrameSizes'. -/
def frameSizesUptoCard : Claim7 := { stood := { row := frameSizesUptoRow, standIns := [], harness := (true, "4fa858865a6e1d0989ffa456690831af2925ae1095d99d30db3ab4fefd597ad0"), looks := true }, kinds := [], alts := [], laidByText := true, laidKinds := [.data, .data, .data, .data, .sentinel, .sentinel, .sentinel, .pinned], laidTests := true, laidLooks := .later }
def FrameSizesUptoCardSaid : Prop := Claim7.holds Tryd.pinned (.plain (OpenSpec.upto frameSizesSpec)) frameSizesUptoCard
end Rows
end Go.Proofs.YtjlehlkkgkplmaaDoor
