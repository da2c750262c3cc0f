/-
  NARROWER THAN 'FOR EVERY INPUT', by the rows' own cells (each row's printed sentence says how): NumberBack: laid · NumberResidues: laid · NumberOrders: laid · NumberSigns: laid · NumberLogic: laid · NumberDoes: laid.
  DERIVED. THE GIVEN ROWS OF THIS SEAT. 6 by the template 'for every input the law returns true; each argument reads behind the call as it read before'; 0 by the template 'total and deterministic' (their statements: YtkghmcfbhojbaaaDoorTotals.lean).
  GIVEN WITH THE SEED: the statements are not yours to turn. If you find one false, say at which input.
  Laid BY PROGRAM, IN A SANDBOX (cutbox-rows.mjs): the forced cells as the released guide's own fill.sh prints them over the translation 3e537ac8e7dd0f02… (all of the seat's roots in one cut). By AI agents, Wed Nov 11 2026. No macro, syntax, notation, axiom, sorry.
-/
import Derived.Test.YtkghmcfbhojbaaaDoorChecked
import GoSem.Claim
import GoSem.ClaimJoined
import GoSem.ClaimMapViews
import Derived.JoinedTies
import Derived.KernelRfl
namespace Go.Proofs.YtkghmcfbhojbaaaDoor
/- THE CELL 'sum', in the pinned program and in every row, IS THE sha256 OF THE DUMP (.gsa) THAT YtkghmcfbhojbaaaDoorProg.lean LOADS. Nothing in Lean hashes anything: it is a label: what it is worth is what the hold of that sum in a sandbox is worth. -/
noncomputable def Tryd.pinned : Pinned := { name := "ytkghmcfbhojbaaadoor", sum := "3e537ac8e7dd0f026db53424032032e34c9ab3af20049e4935ecb1854961bfba", checked := Tryd.checked }
namespace Rows
def none {H : Type} : Left H := { results := [], args := [] }

/- WHAT THE LISTED PACKAGE-LEVEL VARIABLES READ AS WHEN THE CALL BEGINS. Each datum BY PROGRAM (the guide's laid-datum.mjs) off the statement by which the dump's own 'gosem.cut.vars' lays the variable. In a bare row this is a premise. The card (YtkghmcfbhojbaaaDoorCards.lean) ties it to the program's text. -/
def laid_errors_errorType {H : Type} : DataW H := .iface "internal/reflectlite.rtype" (.agg [.ptr (.lit (.string [101, 114, 114, 111, 114]))])
def laid_diaeresis_number_errOver {H : Type} : DataW H := .iface "*errors.errorString" (.ptr (.agg [.lit (.string [116, 111, 111, 32, 103, 114, 101, 97, 116])]))
def laid_diaeresis_number_errDivide {H : Type} : DataW H := .iface "*errors.errorString" (.ptr (.agg [.lit (.string [110, 111, 32, 113, 117, 111, 116, 105, 101, 110, 116])]))

/-- 'diaeresislaw10.NumberBack': WHATEVER THE INPUT: true; the input reads as it did. -/
def numberBackSpec : ChangeSpec := { name := "numberBack", fn := fun _ => fun
  | [d1, d2] => { results := [.lit (.bool true)], args := [d1, d2] }
  | _ => none }
def numberBackRow : OpenClaim := { program := "ytkghmcfbhojbaaadoor", sum := "3e537ac8e7dd0f026db53424032032e34c9ab3af20049e4935ecb1854961bfba", func := "diaeresis/diaeresislaw10.NumberBack", spec := "numberBack", inPlace := ["internal/reflectlite.TypeOf", "internal/reflectlite.ValueOf", "(internal/reflectlite.Value).Type", "(internal/reflectlite.Value).IsNil", "(internal/reflectlite.Value).Elem", "(internal/reflectlite.Value).Set"], unfollowed := true, recurses := true, named := ["diaeresis/number.errOver", "diaeresis/number.errDivide", "errors.errorType"], apart := false, laid := [("errors.errorType", laid_errors_errorType), ("diaeresis/number.errOver", laid_diaeresis_number_errOver), ("diaeresis/number.errDivide", laid_diaeresis_number_errDivide)] }
def NumberBackSaid : Prop := numberBackRow.holds Tryd.pinned (OpenSpec.ofChange numberBackSpec)

/-- ITS FALSE NEIGHBOUR: 'it returns false'. Refute it at one input. -/
def numberBackWrong : ChangeSpec := { name := "numberBack", fn := fun _ => fun
  | [d1, d2] => { results := [.lit (.bool false)], args := [d1, d2] }
  | _ => none }
def NumberBackWrongFalsely : Prop := numberBackRow.holds Tryd.pinned (OpenSpec.ofChange numberBackWrong)

/-- 'diaeresislaw10.NumberResidues': WHATEVER THE INPUT: true; the input reads as it did. -/
def numberResiduesSpec : ChangeSpec := { name := "numberResidues", fn := fun _ => fun
  | [d1, d2] => { results := [.lit (.bool true)], args := [d1, d2] }
  | _ => none }
def numberResiduesRow : OpenClaim := { program := "ytkghmcfbhojbaaadoor", sum := "3e537ac8e7dd0f026db53424032032e34c9ab3af20049e4935ecb1854961bfba", func := "diaeresis/diaeresislaw10.NumberResidues", spec := "numberResidues", inPlace := ["internal/reflectlite.TypeOf", "internal/reflectlite.ValueOf", "(internal/reflectlite.Value).Type", "(internal/reflectlite.Value).IsNil", "(internal/reflectlite.Value).Elem", "(internal/reflectlite.Value).Set"], unfollowed := true, recurses := true, named := ["diaeresis/number.errOver", "diaeresis/number.errDivide", "errors.errorType"], apart := false, laid := [("errors.errorType", laid_errors_errorType), ("diaeresis/number.errOver", laid_diaeresis_number_errOver), ("diaeresis/number.errDivide", laid_diaeresis_number_errDivide)] }
def NumberResiduesSaid : Prop := numberResiduesRow.holds Tryd.pinned (OpenSpec.ofChange numberResiduesSpec)

/-- ITS FALSE NEIGHBOUR: 'it returns false'. Refute it at one input. -/
def numberResiduesWrong : ChangeSpec := { name := "numberResidues", fn := fun _ => fun
  | [d1, d2] => { results := [.lit (.bool false)], args := [d1, d2] }
  | _ => none }
def NumberResiduesWrongFalsely : Prop := numberResiduesRow.holds Tryd.pinned (OpenSpec.ofChange numberResiduesWrong)

/-- 'diaeresislaw10.NumberOrders': WHATEVER THE INPUT: true; the input reads as it did. -/
def numberOrdersSpec : ChangeSpec := { name := "numberOrders", fn := fun _ => fun
  | [d1, d2] => { results := [.lit (.bool true)], args := [d1, d2] }
  | _ => none }
def numberOrdersRow : OpenClaim := { program := "ytkghmcfbhojbaaadoor", sum := "3e537ac8e7dd0f026db53424032032e34c9ab3af20049e4935ecb1854961bfba", func := "diaeresis/diaeresislaw10.NumberOrders", spec := "numberOrders", inPlace := ["internal/reflectlite.TypeOf", "internal/reflectlite.ValueOf", "(internal/reflectlite.Value).Type", "(internal/reflectlite.Value).IsNil", "(internal/reflectlite.Value).Elem", "(internal/reflectlite.Value).Set"], unfollowed := true, recurses := true, named := ["diaeresis/number.errOver", "diaeresis/number.errDivide", "errors.errorType"], apart := false, laid := [("errors.errorType", laid_errors_errorType), ("diaeresis/number.errOver", laid_diaeresis_number_errOver), ("diaeresis/number.errDivide", laid_diaeresis_number_errDivide)] }
def NumberOrdersSaid : Prop := numberOrdersRow.holds Tryd.pinned (OpenSpec.ofChange numberOrdersSpec)

/-- ITS FALSE NEIGHBOUR: 'it returns false'. Refute it at one input. -/
def numberOrdersWrong : ChangeSpec := { name := "numberOrders", fn := fun _ => fun
  | [d1, d2] => { results := [.lit (.bool false)], args := [d1, d2] }
  | _ => none }
def NumberOrdersWrongFalsely : Prop := numberOrdersRow.holds Tryd.pinned (OpenSpec.ofChange numberOrdersWrong)

/-- 'diaeresislaw10.NumberSigns': WHATEVER THE INPUT: true; the input reads as it did. -/
def numberSignsSpec : ChangeSpec := { name := "numberSigns", fn := fun _ => fun
  | [d] => { results := [.lit (.bool true)], args := [d] }
  | _ => none }
def numberSignsRow : OpenClaim := { program := "ytkghmcfbhojbaaadoor", sum := "3e537ac8e7dd0f026db53424032032e34c9ab3af20049e4935ecb1854961bfba", func := "diaeresis/diaeresislaw10.NumberSigns", spec := "numberSigns", inPlace := ["internal/reflectlite.TypeOf", "internal/reflectlite.ValueOf", "(internal/reflectlite.Value).Type", "(internal/reflectlite.Value).IsNil", "(internal/reflectlite.Value).Elem", "(internal/reflectlite.Value).Set"], unfollowed := true, recurses := true, named := ["diaeresis/number.errOver", "diaeresis/number.errDivide", "errors.errorType"], apart := false, laid := [("errors.errorType", laid_errors_errorType), ("diaeresis/number.errOver", laid_diaeresis_number_errOver), ("diaeresis/number.errDivide", laid_diaeresis_number_errDivide)] }
def NumberSignsSaid : Prop := numberSignsRow.holds Tryd.pinned (OpenSpec.ofChange numberSignsSpec)

/-- ITS FALSE NEIGHBOUR: 'it returns false'. Refute it at one input. -/
def numberSignsWrong : ChangeSpec := { name := "numberSigns", fn := fun _ => fun
  | [d] => { results := [.lit (.bool false)], args := [d] }
  | _ => none }
def NumberSignsWrongFalsely : Prop := numberSignsRow.holds Tryd.pinned (OpenSpec.ofChange numberSignsWrong)

/-- 'diaeresislaw10.NumberLogic': WHATEVER THE INPUT: true; the input reads as it did. -/
def numberLogicSpec : ChangeSpec := { name := "numberLogic", fn := fun _ => fun
  | [d1, d2] => { results := [.lit (.bool true)], args := [d1, d2] }
  | _ => none }
def numberLogicRow : OpenClaim := { program := "ytkghmcfbhojbaaadoor", sum := "3e537ac8e7dd0f026db53424032032e34c9ab3af20049e4935ecb1854961bfba", func := "diaeresis/diaeresislaw10.NumberLogic", spec := "numberLogic", inPlace := ["internal/reflectlite.TypeOf", "internal/reflectlite.ValueOf", "(internal/reflectlite.Value).Type", "(internal/reflectlite.Value).IsNil", "(internal/reflectlite.Value).Elem", "(internal/reflectlite.Value).Set"], unfollowed := true, recurses := true, named := ["diaeresis/number.errOver", "diaeresis/number.errDivide", "errors.errorType"], apart := false, laid := [("errors.errorType", laid_errors_errorType), ("diaeresis/number.errOver", laid_diaeresis_number_errOver), ("diaeresis/number.errDivide", laid_diaeresis_number_errDivide)] }
def NumberLogicSaid : Prop := numberLogicRow.holds Tryd.pinned (OpenSpec.ofChange numberLogicSpec)

/-- ITS FALSE NEIGHBOUR: 'it returns false'. Refute it at one input. -/
def numberLogicWrong : ChangeSpec := { name := "numberLogic", fn := fun _ => fun
  | [d1, d2] => { results := [.lit (.bool false)], args := [d1, d2] }
  | _ => none }
def NumberLogicWrongFalsely : Prop := numberLogicRow.holds Tryd.pinned (OpenSpec.ofChange numberLogicWrong)

/-- 'diaeresislaw10.NumberDoes': WHATEVER THE INPUT: true; the input reads as it did. -/
def numberDoesSpec : ChangeSpec := { name := "numberDoes", fn := fun _ => fun
  | [d1, d2, d3] => { results := [.lit (.bool true)], args := [d1, d2, d3] }
  | _ => none }
def numberDoesRow : OpenClaim := { program := "ytkghmcfbhojbaaadoor", sum := "3e537ac8e7dd0f026db53424032032e34c9ab3af20049e4935ecb1854961bfba", func := "diaeresis/diaeresislaw10.NumberDoes", spec := "numberDoes", inPlace := ["internal/reflectlite.TypeOf", "internal/reflectlite.ValueOf", "(internal/reflectlite.Value).Type", "(internal/reflectlite.Value).IsNil", "(internal/reflectlite.Value).Elem", "(internal/reflectlite.Value).Set"], unfollowed := true, recurses := true, named := ["diaeresis/number.errOver", "diaeresis/number.errDivide", "errors.errorType"], apart := false, laid := [("errors.errorType", laid_errors_errorType), ("diaeresis/number.errOver", laid_diaeresis_number_errOver), ("diaeresis/number.errDivide", laid_diaeresis_number_errDivide)] }
def NumberDoesSaid : Prop := numberDoesRow.holds Tryd.pinned (OpenSpec.ofChange numberDoesSpec)

/-- ITS FALSE NEIGHBOUR: 'it returns false'. Refute it at one input. -/
def numberDoesWrong : ChangeSpec := { name := "numberDoes", fn := fun _ => fun
  | [d1, d2, d3] => { results := [.lit (.bool false)], args := [d1, d2, d3] }
  | _ => none }
def NumberDoesWrongFalsely : Prop := numberDoesRow.holds Tryd.pinned (OpenSpec.ofChange numberDoesWrong)

/- THE SECOND FORM. 'bulk': how many values and letters a reading holds, each counted each time it is reached (what is shared counts as often as it is met; a slice's spare places count too). A statement '..UptoSaid' is the law's where the arguments, and the package variables that the reading takes, are together of bulk at most 1048576: NARROWER than '..Said'. Prove '..Said' where nothing that the law and all that it calls make is longer than what came in: it says more and counts as full. Else prove '..UptoSaid'. A law counts once. -/
mutual
def uptoBulk {H : Type} : DataW H → Nat
  | .lit (.string bytes) => bytes.length + 1
  | .lit _ => 1
  | .nil => 1
  | .ptr d => uptoBulk d + 1
  | .slice elems spare => uptoBulkAll elems + uptoBulkAll spare + 1
  | .agg parts => uptoBulkAll parts + 1
  | .iface _ d => uptoBulk d + 1
  | .map entries => uptoBulkEntries entries + 1
  | .held _ => 1
def uptoBulkAll {H : Type} : List (DataW H) → Nat
  | [] => 0
  | d :: r => uptoBulk d + uptoBulkAll r
def uptoBulkEntries {H : Type} : List (Lit × DataW H) → Nat
  | [] => 0
  | x :: r => uptoBulkEntry x + uptoBulkEntries r
def uptoBulkEntry {H : Type} : Lit × DataW H → Nat
  | (.string bytes, d) => bytes.length + uptoBulk d + 1
  | (_, d) => uptoBulk d + 1
 end
def uptoSmall : (H : Type) → List (DataW H) → Bool := fun _ ds => decide (uptoBulkAll ds ≤ 1048576)
def OpenSpec.upto (s : _root_.Go.ChangeSpec) : _root_.Go.OpenSpec := { _root_.Go.OpenSpec.ofChange s with cond := some uptoSmall }

/-- 'diaeresislaw10.NumberBack', WHERE WHAT IT READS IS OF BULK AT MOST 1048576: true; the input reads as it did. -/
def numberBackUptoRow : OpenClaim := { program := "ytkghmcfbhojbaaadoor", sum := "3e537ac8e7dd0f026db53424032032e34c9ab3af20049e4935ecb1854961bfba", func := "diaeresis/diaeresislaw10.NumberBack", spec := "numberBack", inPlace := ["internal/reflectlite.TypeOf", "internal/reflectlite.ValueOf", "(internal/reflectlite.Value).Type", "(internal/reflectlite.Value).IsNil", "(internal/reflectlite.Value).Elem", "(internal/reflectlite.Value).Set"], unfollowed := true, recurses := true, named := ["diaeresis/number.errOver", "diaeresis/number.errDivide", "errors.errorType"], apart := false, laid := [("errors.errorType", laid_errors_errorType), ("diaeresis/number.errOver", laid_diaeresis_number_errOver), ("diaeresis/number.errDivide", laid_diaeresis_number_errDivide)], narrowed := true }
def NumberBackUptoSaid : Prop := numberBackUptoRow.holds Tryd.pinned (OpenSpec.upto numberBackSpec)

/-- 'diaeresislaw10.NumberResidues', WHERE WHAT IT READS IS OF BULK AT MOST 1048576: true; the input reads as it did. -/
def numberResiduesUptoRow : OpenClaim := { program := "ytkghmcfbhojbaaadoor", sum := "3e537ac8e7dd0f026db53424032032e34c9ab3af20049e4935ecb1854961bfba", func := "diaeresis/diaeresislaw10.NumberResidues", spec := "numberResidues", inPlace := ["internal/reflectlite.TypeOf", "internal/reflectlite.ValueOf", "(internal/reflectlite.Value).Type", "(internal/reflectlite.Value).IsNil", "(internal/reflectlite.Value).Elem", "(internal/reflectlite.Value).Set"], unfollowed := true, recurses := true, named := ["diaeresis/number.errOver", "diaeresis/number.errDivide", "errors.errorType"], apart := false, laid := [("errors.errorType", laid_errors_errorType), ("diaeresis/number.errOver", laid_diaeresis_number_errOver), ("diaeresis/number.errDivide", laid_diaeresis_number_errDivide)], narrowed := true }
def NumberResiduesUptoSaid : Prop := numberResiduesUptoRow.holds Tryd.pinned (OpenSpec.upto numberResiduesSpec)

/-- 'diaeresislaw10.NumberOrders', WHERE WHAT IT READS IS OF BULK AT MOST 1048576: true; the input reads as it did. -/
def numberOrdersUptoRow : OpenClaim := { program := "ytkghmcfbhojbaaadoor", sum := "3e537ac8e7dd0f026db53424032032e34c9ab3af20049e4935ecb1854961bfba", func := "diaeresis/diaeresislaw10.NumberOrders", spec := "numberOrders", inPlace := ["internal/reflectlite.TypeOf", "internal/reflectlite.ValueOf", "(internal/reflectlite.Value).Type", "(internal/reflectlite.Value).IsNil", "(internal/reflectlite.Value).Elem", "(internal/reflectlite.Value).Set"], unfollowed := true, recurses := true, named := ["diaeresis/number.errOver", "diaeresis/number.errDivide", "errors.errorType"], apart := false, laid := [("errors.errorType", laid_errors_errorType), ("diaeresis/number.errOver", laid_diaeresis_number_errOver), ("diaeresis/number.errDivide", laid_diaeresis_number_errDivide)], narrowed := true }
def NumberOrdersUptoSaid : Prop := numberOrdersUptoRow.holds Tryd.pinned (OpenSpec.upto numberOrdersSpec)

/-- 'diaeresislaw10.NumberSigns', WHERE WHAT IT READS IS OF BULK AT MOST 1048576: true; the input reads as it did. -/
def numberSignsUptoRow : OpenClaim := { program := "ytkghmcfbhojbaaadoor", sum := "3e537ac8e7dd0f026db53424032032e34c9ab3af20049e4935ecb1854961bfba", func := "diaeresis/diaeresislaw10.NumberSigns", spec := "numberSigns", inPlace := ["internal/reflectlite.TypeOf", "internal/reflectlite.ValueOf", "(internal/reflectlite.Value).Type", "(internal/reflectlite.Value).IsNil", "(internal/reflectlite.Value).Elem", "(internal/reflectlite.Value).Set"], unfollowed := true, recurses := true, named := ["diaeresis/number.errOver", "diaeresis/number.errDivide", "errors.errorType"], apart := false, laid := [("errors.errorType", laid_errors_errorType), ("diaeresis/number.errOver", laid_diaeresis_number_errOver), ("diaeresis/number.errDivide", laid_diaeresis_number_errDivide)], narrowed := true }
def NumberSignsUptoSaid : Prop := numberSignsUptoRow.holds Tryd.pinned (OpenSpec.upto numberSignsSpec)

/-- 'diaeresislaw10.NumberLogic', WHERE WHAT IT READS IS OF BULK AT MOST 1048576: true; the input reads as it did. -/
def numberLogicUptoRow : OpenClaim := { program := "ytkghmcfbhojbaaadoor", sum := "3e537ac8e7dd0f026db53424032032e34c9ab3af20049e4935ecb1854961bfba", func := "diaeresis/diaeresislaw10.NumberLogic", spec := "numberLogic", inPlace := ["internal/reflectlite.TypeOf", "internal/reflectlite.ValueOf", "(internal/reflectlite.Value).Type", "(internal/reflectlite.Value).IsNil", "(internal/reflectlite.Value).Elem", "(internal/reflectlite.Value).Set"], unfollowed := true, recurses := true, named := ["diaeresis/number.errOver", "diaeresis/number.errDivide", "errors.errorType"], apart := false, laid := [("errors.errorType", laid_errors_errorType), ("diaeresis/number.errOver", laid_diaeresis_number_errOver), ("diaeresis/number.errDivide", laid_diaeresis_number_errDivide)], narrowed := true }
def NumberLogicUptoSaid : Prop := numberLogicUptoRow.holds Tryd.pinned (OpenSpec.upto numberLogicSpec)

/-- 'diaeresislaw10.NumberDoes', WHERE WHAT IT READS IS OF BULK AT MOST 1048576: true; the input reads as it did. -/
def numberDoesUptoRow : OpenClaim := { program := "ytkghmcfbhojbaaadoor", sum := "3e537ac8e7dd0f026db53424032032e34c9ab3af20049e4935ecb1854961bfba", func := "diaeresis/diaeresislaw10.NumberDoes", spec := "numberDoes", inPlace := ["internal/reflectlite.TypeOf", "internal/reflectlite.ValueOf", "(internal/reflectlite.Value).Type", "(internal/reflectlite.Value).IsNil", "(internal/reflectlite.Value).Elem", "(internal/reflectlite.Value).Set"], unfollowed := true, recurses := true, named := ["diaeresis/number.errOver", "diaeresis/number.errDivide", "errors.errorType"], apart := false, laid := [("errors.errorType", laid_errors_errorType), ("diaeresis/number.errOver", laid_diaeresis_number_errOver), ("diaeresis/number.errDivide", laid_diaeresis_number_errDivide)], narrowed := true }
def NumberDoesUptoSaid : Prop := numberDoesUptoRow.holds Tryd.pinned (OpenSpec.upto numberDoesSpec)

end Rows
end Go.Proofs.YtkghmcfbhojbaaaDoor
