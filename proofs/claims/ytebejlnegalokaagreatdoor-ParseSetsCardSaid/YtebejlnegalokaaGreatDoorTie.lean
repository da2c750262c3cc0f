/-
  DERIVED. GIVEN WITH THE SEED: THE PROGRAM's TIES (one call each: nine closed facts by the kernel) AND EACH ROW's TIE, after the 31st guide's Derived/Test/Toyas{Tie, Card}.lean. No idea stands in it: it is a product of the set-up. Laid BY PROGRAM, IN A SANDBOX (cutbox-door.mjs). By AI agents, Wed Nov 11 2026. No macro, syntax, notation, axiom, sorry.
-/
import Derived.Test.YtebejlnegalokaaGreatDoorRows
import Derived.LaidByTextLater
import Derived.SevenTiedAt
import Derived.LaidSub
import Derived.LaidOnce
namespace Go.Proofs.YtebejlnegalokaaGreatDoor
open Go
set_option maxRecDepth 100000
theorem seatTie1 : Tryz.prog.laidByTextLater [("math/bits.deBruijn32tab", Rows.laid_math_bits_deBruijn32tab), ("math/bits.deBruijn64tab", Rows.laid_math_bits_deBruijn64tab), ("internal/strconv.uint64pow10", Rows.laid_internal_strconv_uint64pow10), ("errors.errorType", Rows.laid_errors_errorType), ("diaeresis/group.errGroup", Rows.laid_diaeresis_group_errGroup), ("diaeresis/node.errNode", Rows.laid_diaeresis_node_errNode), ("diaeresis/parse.errSyntax", Rows.laid_diaeresis_parse_errSyntax)] [.data, .data, .data, .handle, .sentinel, .sentinel, .sentinel] true :=
  Program.laidByTextLater_by_one 88 8 65 (by kernel_rfl) (by kernel_rfl) (by kernel_rfl) (by kernel_rfl) (by kernel_rfl) (by kernel_rfl) (fun _ _ => by kernel_rfl)
theorem noOwnUnsafe : Tryz.pinned.checked.prog.headLifts.contains "ownunsafe" = false := by kernel_rfl
theorem tie : Tryz.prog.laidByTextLater [("math/bits.deBruijn32tab", Rows.laid_math_bits_deBruijn32tab), ("math/bits.deBruijn64tab", Rows.laid_math_bits_deBruijn64tab), ("internal/strconv.uint64pow10", Rows.laid_internal_strconv_uint64pow10), ("errors.errorType", Rows.laid_errors_errorType), ("diaeresis/group.errGroup", Rows.laid_diaeresis_group_errGroup), ("diaeresis/node.errNode", Rows.laid_diaeresis_node_errNode), ("diaeresis/parse.errSyntax", Rows.laid_diaeresis_parse_errSyntax)] [.data, .data, .data, .handle, .sentinel, .sentinel, .sentinel] true :=
  Program.laidByTextLater.sub seatTie1 ["math/bits.deBruijn32tab", "math/bits.deBruijn64tab", "internal/strconv.uint64pow10", "errors.errorType", "diaeresis/group.errGroup", "diaeresis/node.errNode", "diaeresis/parse.errSyntax"] (by kernel_rfl) (by kernel_rfl)
theorem parseNames_row_tie : Rows.parseNamesRow.laidByTextAt .later Tryz.pinned [.data, .data, .data, .handle, .sentinel, .sentinel, .sentinel] true :=
  OpenClaim.laidByTextAt_later rfl rfl tie noOwnUnsafe
theorem parseMons_row_tie : Rows.parseMonsRow.laidByTextAt .later Tryz.pinned [.data, .data, .data, .handle, .sentinel, .sentinel, .sentinel] true :=
  OpenClaim.laidByTextAt_later rfl rfl tie noOwnUnsafe
theorem parseOps_row_tie : Rows.parseOpsRow.laidByTextAt .later Tryz.pinned [.data, .data, .data, .handle, .sentinel, .sentinel, .sentinel] true :=
  OpenClaim.laidByTextAt_later rfl rfl tie noOwnUnsafe
theorem parseWraps_row_tie : Rows.parseWrapsRow.laidByTextAt .later Tryz.pinned [.data, .data, .data, .handle, .sentinel, .sentinel, .sentinel] true :=
  OpenClaim.laidByTextAt_later rfl rfl tie noOwnUnsafe
theorem parseSets_row_tie : Rows.parseSetsRow.laidByTextAt .later Tryz.pinned [.data, .data, .data, .handle, .sentinel, .sentinel, .sentinel] true :=
  OpenClaim.laidByTextAt_later rfl rfl tie noOwnUnsafe
theorem parseNamesUpto_row_tie : Rows.parseNamesUptoRow.laidByTextAt .later Tryz.pinned [.data, .data, .data, .handle, .sentinel, .sentinel, .sentinel] true :=
  OpenClaim.laidByTextAt_later rfl rfl tie noOwnUnsafe
theorem parseMonsUpto_row_tie : Rows.parseMonsUptoRow.laidByTextAt .later Tryz.pinned [.data, .data, .data, .handle, .sentinel, .sentinel, .sentinel] true :=
  OpenClaim.laidByTextAt_later rfl rfl tie noOwnUnsafe
theorem parseOpsUpto_row_tie : Rows.parseOpsUptoRow.laidByTextAt .later Tryz.pinned [.data, .data, .data, .handle, .sentinel, .sentinel, .sentinel] true :=
  OpenClaim.laidByTextAt_later rfl rfl tie noOwnUnsafe
theorem parseWrapsUpto_row_tie : Rows.parseWrapsUptoRow.laidByTextAt .later Tryz.pinned [.data, .data, .data, .handle, .sentinel, .sentinel, .sentinel] true :=
  OpenClaim.laidByTextAt_later rfl rfl tie noOwnUnsafe
theorem parseSetsUpto_row_tie : Rows.parseSetsUptoRow.laidByTextAt .later Tryz.pinned [.data, .data, .data, .handle, .sentinel, .sentinel, .sentinel] true :=
  OpenClaim.laidByTextAt_later rfl rfl tie noOwnUnsafe
end Go.Proofs.YtebejlnegalokaaGreatDoor
