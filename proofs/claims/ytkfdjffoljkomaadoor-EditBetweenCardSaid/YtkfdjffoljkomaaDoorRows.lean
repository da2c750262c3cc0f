/-
  NARROWER THAN 'FOR EVERY INPUT', by the rows' own cells (each row's printed sentence says how): EditBack: laid · EditNone: laid · EditApplies: laid · EditLeast: laid · EditBetween: laid · EditMakes: laid.
  DERIVED. THE GIVEN ROWS OF THIS SEAT. 6 by the template 'for every input the law returns true; each argument reads behind the call as it read before'; 0 by the template 'total and deterministic' (their statements: YtkfdjffoljkomaaDoorTotals.lean).
  GIVEN WITH THE SEED: the statements are not yours to turn. If you find one false, say at which input.
  Laid BY PROGRAM, IN A SANDBOX (cutbox-rows.mjs): the forced cells as the released guide's own fill.sh prints them over the translation 4a7627914bcdd886… (all of the seat's roots in one cut). By AI agents, Wed Nov 11 2026. No macro, syntax, notation, axiom, sorry.
-/
import Derived.Test.YtkfdjffoljkomaaDoorChecked
import GoSem.PinnedTables
import GoSem.Claim
import GoSem.ClaimJoined
import GoSem.ClaimMapViews
import Derived.JoinedTies
import Derived.KernelRfl
namespace Go.Proofs.YtkfdjffoljkomaaDoor
/- THE CELL 'sum', in the pinned program and in every row, IS THE sha256 OF THE DUMP (.gsa) THAT YtkfdjffoljkomaaDoorProg.lean LOADS. Nothing in Lean hashes anything: it is a label: what it is worth is what the hold of that sum in a sandbox is worth. -/
noncomputable def Tryd.pinned : Pinned := { name := "ytkfdjffoljkomaadoor", sum := "4a7627914bcdd886e119d8ee2afe18257b711f51099466de7ab51acf9c9e6924", checked := Tryd.checked }
namespace Rows
def none {H : Type} : Left H := { results := [], args := [] }

/- WHAT THE LISTED PACKAGE-LEVEL VARIABLES READ AS WHEN THE CALL BEGINS. Each datum BY PROGRAM (the guide's laid-datum.mjs) off the statement by which the dump's own 'gosem.cut.vars' lays the variable. In a bare row this is a premise. The card (YtkfdjffoljkomaaDoorCards.lean) ties it to the program's text. -/
def laid_diaeresis_edit_errEdit {H : Type} : DataW H := .iface "*errors.errorString" (.ptr (.agg [.lit (.string [110, 111, 32, 101, 100, 105, 116])]))
def laid_unicode_utf8_acceptRanges {H : Type} : DataW H := .agg [.agg [.lit (.int .u8 128), .lit (.int .u8 191)], .agg [.lit (.int .u8 160), .lit (.int .u8 191)], .agg [.lit (.int .u8 128), .lit (.int .u8 159)], .agg [.lit (.int .u8 144), .lit (.int .u8 191)], .agg [.lit (.int .u8 128), .lit (.int .u8 143)], .agg [.lit (.int .u8 0), .lit (.int .u8 0)], .agg [.lit (.int .u8 0), .lit (.int .u8 0)], .agg [.lit (.int .u8 0), .lit (.int .u8 0)], .agg [.lit (.int .u8 0), .lit (.int .u8 0)], .agg [.lit (.int .u8 0), .lit (.int .u8 0)], .agg [.lit (.int .u8 0), .lit (.int .u8 0)], .agg [.lit (.int .u8 0), .lit (.int .u8 0)], .agg [.lit (.int .u8 0), .lit (.int .u8 0)], .agg [.lit (.int .u8 0), .lit (.int .u8 0)], .agg [.lit (.int .u8 0), .lit (.int .u8 0)], .agg [.lit (.int .u8 0), .lit (.int .u8 0)]]
/-- One of Go's own tables, pinned by name: the form's constant. -/
def laid_unicode_utf8_first : DataW Unit := Go.Pinned.utf8First

/-- 'diaeresislaw16.EditBack': WHATEVER THE INPUT: true; the input reads as it did. -/
def editBackSpec : ChangeSpec := { name := "editBack", fn := fun _ => fun
  | [d1, d2] => { results := [.lit (.bool true)], args := [d1, d2] }
  | _ => none }
def editBackRow : OpenClaim := { program := "ytkfdjffoljkomaadoor", sum := "4a7627914bcdd886e119d8ee2afe18257b711f51099466de7ab51acf9c9e6924", func := "diaeresis/diaeresislaw16.EditBack", spec := "editBack", inPlace := ["internal/reflectlite.TypeOf"], unfollowed := true, recurses := true, named := ["diaeresis/edit.errEdit"], apart := false, laid := [("diaeresis/edit.errEdit", laid_diaeresis_edit_errEdit)] }
def EditBackSaid : Prop := editBackRow.holds Tryd.pinned (OpenSpec.ofChange editBackSpec)

/-- ITS FALSE NEIGHBOUR: 'it returns false'. Refute it at one input. -/
def editBackWrong : ChangeSpec := { name := "editBack", fn := fun _ => fun
  | [d1, d2] => { results := [.lit (.bool false)], args := [d1, d2] }
  | _ => none }
def EditBackWrongFalsely : Prop := editBackRow.holds Tryd.pinned (OpenSpec.ofChange editBackWrong)

/-- 'diaeresislaw16.EditNone': WHATEVER THE INPUT: true; the input reads as it did. -/
def editNoneSpec : ChangeSpec := { name := "editNone", fn := fun _ => fun
  | [d1, d2] => { results := [.lit (.bool true)], args := [d1, d2] }
  | _ => none }
def editNoneRow : OpenClaim := { program := "ytkfdjffoljkomaadoor", sum := "4a7627914bcdd886e119d8ee2afe18257b711f51099466de7ab51acf9c9e6924", func := "diaeresis/diaeresislaw16.EditNone", spec := "editNone", inPlace := ["internal/reflectlite.TypeOf"], unfollowed := true, recurses := true, named := ["diaeresis/edit.errEdit"], apart := false, laid := [("diaeresis/edit.errEdit", laid_diaeresis_edit_errEdit)] }
def EditNoneSaid : Prop := editNoneRow.holds Tryd.pinned (OpenSpec.ofChange editNoneSpec)

/-- ITS FALSE NEIGHBOUR: 'it returns false'. Refute it at one input. -/
def editNoneWrong : ChangeSpec := { name := "editNone", fn := fun _ => fun
  | [d1, d2] => { results := [.lit (.bool false)], args := [d1, d2] }
  | _ => none }
def EditNoneWrongFalsely : Prop := editNoneRow.holds Tryd.pinned (OpenSpec.ofChange editNoneWrong)

/-- 'diaeresislaw16.EditApplies': WHATEVER THE INPUT: true; the input reads as it did. -/
def editAppliesSpec : ChangeSpec := { name := "editApplies", fn := fun _ => fun
  | [d1, d2, d3] => { results := [.lit (.bool true)], args := [d1, d2, d3] }
  | _ => none }
def editAppliesRow : OpenClaim := { program := "ytkfdjffoljkomaadoor", sum := "4a7627914bcdd886e119d8ee2afe18257b711f51099466de7ab51acf9c9e6924", func := "diaeresis/diaeresislaw16.EditApplies", spec := "editApplies", inPlace := ["internal/reflectlite.TypeOf"], unfollowed := true, recurses := true, named := ["diaeresis/edit.errEdit"], apart := false, laid := [("diaeresis/edit.errEdit", laid_diaeresis_edit_errEdit)] }
def EditAppliesSaid : Prop := editAppliesRow.holds Tryd.pinned (OpenSpec.ofChange editAppliesSpec)

/-- ITS FALSE NEIGHBOUR: 'it returns false'. Refute it at one input. -/
def editAppliesWrong : ChangeSpec := { name := "editApplies", fn := fun _ => fun
  | [d1, d2, d3] => { results := [.lit (.bool false)], args := [d1, d2, d3] }
  | _ => none }
def EditAppliesWrongFalsely : Prop := editAppliesRow.holds Tryd.pinned (OpenSpec.ofChange editAppliesWrong)

/-- 'diaeresislaw16.EditLeast': WHATEVER THE INPUT: true; the input reads as it did. -/
def editLeastSpec : ChangeSpec := { name := "editLeast", fn := fun _ => fun
  | [d1, d2] => { results := [.lit (.bool true)], args := [d1, d2] }
  | _ => none }
def editLeastRow : OpenClaim := { program := "ytkfdjffoljkomaadoor", sum := "4a7627914bcdd886e119d8ee2afe18257b711f51099466de7ab51acf9c9e6924", func := "diaeresis/diaeresislaw16.EditLeast", spec := "editLeast", inPlace := ["internal/reflectlite.TypeOf"], unfollowed := true, recurses := true, named := ["diaeresis/edit.errEdit"], apart := false, laid := [("diaeresis/edit.errEdit", laid_diaeresis_edit_errEdit)] }
def EditLeastSaid : Prop := editLeastRow.holds Tryd.pinned (OpenSpec.ofChange editLeastSpec)

/-- ITS FALSE NEIGHBOUR: 'it returns false'. Refute it at one input. -/
def editLeastWrong : ChangeSpec := { name := "editLeast", fn := fun _ => fun
  | [d1, d2] => { results := [.lit (.bool false)], args := [d1, d2] }
  | _ => none }
def EditLeastWrongFalsely : Prop := editLeastRow.holds Tryd.pinned (OpenSpec.ofChange editLeastWrong)

/-- 'diaeresislaw16.EditBetween': WHATEVER THE INPUT: true; the input reads as it did. -/
def editBetweenSpec : ChangeSpec := { name := "editBetween", fn := fun _ => fun
  | [d1, d2] => { results := [.lit (.bool true)], args := [d1, d2] }
  | _ => none }
def editBetweenRow : OpenClaim := { program := "ytkfdjffoljkomaadoor", sum := "4a7627914bcdd886e119d8ee2afe18257b711f51099466de7ab51acf9c9e6924", func := "diaeresis/diaeresislaw16.EditBetween", spec := "editBetween", inPlace := ["internal/reflectlite.TypeOf", "internal/bytealg.CountString", "internal/bytealg.IndexByteString", "internal/bytealg.IndexString"], unfollowed := true, recurses := true, named := ["diaeresis/edit.errEdit", "unicode/utf8.first", "unicode/utf8.acceptRanges", "internal/bytealg.MaxLen"], apart := false, laid := [("unicode/utf8.acceptRanges", laid_unicode_utf8_acceptRanges), ("diaeresis/edit.errEdit", laid_diaeresis_edit_errEdit), ("unicode/utf8.first", laid_unicode_utf8_first)] }
def EditBetweenSaid : Prop := editBetweenRow.holds Tryd.pinned (OpenSpec.ofChange editBetweenSpec)

/-- ITS FALSE NEIGHBOUR: 'it returns false'. Refute it at one input. -/
def editBetweenWrong : ChangeSpec := { name := "editBetween", fn := fun _ => fun
  | [d1, d2] => { results := [.lit (.bool false)], args := [d1, d2] }
  | _ => none }
def EditBetweenWrongFalsely : Prop := editBetweenRow.holds Tryd.pinned (OpenSpec.ofChange editBetweenWrong)

/-- 'diaeresislaw16.EditMakes': WHATEVER THE INPUT: true; the input reads as it did. -/
def editMakesSpec : ChangeSpec := { name := "editMakes", fn := fun _ => fun
  | [d1, d2] => { results := [.lit (.bool true)], args := [d1, d2] }
  | _ => none }
def editMakesRow : OpenClaim := { program := "ytkfdjffoljkomaadoor", sum := "4a7627914bcdd886e119d8ee2afe18257b711f51099466de7ab51acf9c9e6924", func := "diaeresis/diaeresislaw16.EditMakes", spec := "editMakes", inPlace := ["internal/reflectlite.TypeOf", "internal/bytealg.CountString", "internal/bytealg.IndexByteString", "internal/bytealg.IndexString"], unfollowed := true, recurses := true, named := ["diaeresis/edit.errEdit", "unicode/utf8.first", "unicode/utf8.acceptRanges", "internal/bytealg.MaxLen"], apart := false, laid := [("unicode/utf8.acceptRanges", laid_unicode_utf8_acceptRanges), ("diaeresis/edit.errEdit", laid_diaeresis_edit_errEdit), ("unicode/utf8.first", laid_unicode_utf8_first)] }
def EditMakesSaid : Prop := editMakesRow.holds Tryd.pinned (OpenSpec.ofChange editMakesSpec)

/-- ITS FALSE NEIGHBOUR: 'it returns false'. Refute it at one input. -/
def editMakesWrong : ChangeSpec := { name := "editMakes", fn := fun _ => fun
  | [d1, d2] => { results := [.lit (.bool false)], args := [d1, d2] }
  | _ => none }
def EditMakesWrongFalsely : Prop := editMakesRow.holds Tryd.pinned (OpenSpec.ofChange editMakesWrong)

/- THE SECOND FORM. 'bulk': how many values and letters a reading holds, each counted each time it is reached (what is shared counts as often as it is met; a slice's spare places count too). A statement '..UptoSaid' is the law's where the arguments, and the package variables that the reading takes, are together of bulk at most 1048576: NARROWER than '..Said'. Prove '..Said' where nothing that the law and all that it calls make is longer than what came in: it says more and counts as full. Else prove '..UptoSaid'. A law counts once. -/
mutual
def uptoBulk {H : Type} : DataW H → Nat
  | .lit (.string bytes) => bytes.length + 1
  | .lit _ => 1
  | .nil => 1
  | .ptr d => uptoBulk d + 1
  | .slice elems spare => uptoBulkAll elems + uptoBulkAll spare + 1
  | .agg parts => uptoBulkAll parts + 1
  | .iface _ d => uptoBulk d + 1
  | .map entries => uptoBulkEntries entries + 1
  | .held _ => 1
def uptoBulkAll {H : Type} : List (DataW H) → Nat
  | [] => 0
  | d :: r => uptoBulk d + uptoBulkAll r
def uptoBulkEntries {H : Type} : List (Lit × DataW H) → Nat
  | [] => 0
  | x :: r => uptoBulkEntry x + uptoBulkEntries r
def uptoBulkEntry {H : Type} : Lit × DataW H → Nat
  | (.string bytes, d) => bytes.length + uptoBulk d + 1
  | (_, d) => uptoBulk d + 1
 end
def uptoSmall : (H : Type) → List (DataW H) → Bool := fun _ ds => decide (uptoBulkAll ds ≤ 1048576)
def OpenSpec.upto (s : _root_.Go.ChangeSpec) : _root_.Go.OpenSpec := { _root_.Go.OpenSpec.ofChange s with cond := some uptoSmall }

/-- 'diaeresislaw16.EditBack', WHERE WHAT IT READS IS OF BULK AT MOST 1048576: true; the input reads as it did. -/
def editBackUptoRow : OpenClaim := { program := "ytkfdjffoljkomaadoor", sum := "4a7627914bcdd886e119d8ee2afe18257b711f51099466de7ab51acf9c9e6924", func := "diaeresis/diaeresislaw16.EditBack", spec := "editBack", inPlace := ["internal/reflectlite.TypeOf"], unfollowed := true, recurses := true, named := ["diaeresis/edit.errEdit"], apart := false, laid := [("diaeresis/edit.errEdit", laid_diaeresis_edit_errEdit)], narrowed := true }
def EditBackUptoSaid : Prop := editBackUptoRow.holds Tryd.pinned (OpenSpec.upto editBackSpec)

/-- 'diaeresislaw16.EditNone', WHERE WHAT IT READS IS OF BULK AT MOST 1048576: true; the input reads as it did. -/
def editNoneUptoRow : OpenClaim := { program := "ytkfdjffoljkomaadoor", sum := "4a7627914bcdd886e119d8ee2afe18257b711f51099466de7ab51acf9c9e6924", func := "diaeresis/diaeresislaw16.EditNone", spec := "editNone", inPlace := ["internal/reflectlite.TypeOf"], unfollowed := true, recurses := true, named := ["diaeresis/edit.errEdit"], apart := false, laid := [("diaeresis/edit.errEdit", laid_diaeresis_edit_errEdit)], narrowed := true }
def EditNoneUptoSaid : Prop := editNoneUptoRow.holds Tryd.pinned (OpenSpec.upto editNoneSpec)

/-- 'diaeresislaw16.EditApplies', WHERE WHAT IT READS IS OF BULK AT MOST 1048576: true; the input reads as it did. -/
def editAppliesUptoRow : OpenClaim := { program := "ytkfdjffoljkomaadoor", sum := "4a7627914bcdd886e119d8ee2afe18257b711f51099466de7ab51acf9c9e6924", func := "diaeresis/diaeresislaw16.EditApplies", spec := "editApplies", inPlace := ["internal/reflectlite.TypeOf"], unfollowed := true, recurses := true, named := ["diaeresis/edit.errEdit"], apart := false, laid := [("diaeresis/edit.errEdit", laid_diaeresis_edit_errEdit)], narrowed := true }
def EditAppliesUptoSaid : Prop := editAppliesUptoRow.holds Tryd.pinned (OpenSpec.upto editAppliesSpec)

/-- 'diaeresislaw16.EditLeast', WHERE WHAT IT READS IS OF BULK AT MOST 1048576: true; the input reads as it did. -/
def editLeastUptoRow : OpenClaim := { program := "ytkfdjffoljkomaadoor", sum := "4a7627914bcdd886e119d8ee2afe18257b711f51099466de7ab51acf9c9e6924", func := "diaeresis/diaeresislaw16.EditLeast", spec := "editLeast", inPlace := ["internal/reflectlite.TypeOf"], unfollowed := true, recurses := true, named := ["diaeresis/edit.errEdit"], apart := false, laid := [("diaeresis/edit.errEdit", laid_diaeresis_edit_errEdit)], narrowed := true }
def EditLeastUptoSaid : Prop := editLeastUptoRow.holds Tryd.pinned (OpenSpec.upto editLeastSpec)

/-- 'diaeresislaw16.EditBetween', WHERE WHAT IT READS IS OF BULK AT MOST 1048576: true; the input reads as it did. -/
def editBetweenUptoRow : OpenClaim := { program := "ytkfdjffoljkomaadoor", sum := "4a7627914bcdd886e119d8ee2afe18257b711f51099466de7ab51acf9c9e6924", func := "diaeresis/diaeresislaw16.EditBetween", spec := "editBetween", inPlace := ["internal/reflectlite.TypeOf", "internal/bytealg.CountString", "internal/bytealg.IndexByteString", "internal/bytealg.IndexString"], unfollowed := true, recurses := true, named := ["diaeresis/edit.errEdit", "unicode/utf8.first", "unicode/utf8.acceptRanges", "internal/bytealg.MaxLen"], apart := false, laid := [("unicode/utf8.acceptRanges", laid_unicode_utf8_acceptRanges), ("diaeresis/edit.errEdit", laid_diaeresis_edit_errEdit), ("unicode/utf8.first", laid_unicode_utf8_first)], narrowed := true }
def EditBetweenUptoSaid : Prop := editBetweenUptoRow.holds Tryd.pinned (OpenSpec.upto editBetweenSpec)

/-- 'diaeresislaw16.EditMakes', WHERE WHAT IT READS IS OF BULK AT MOST 1048576: true; the input reads as it did. -/
def editMakesUptoRow : OpenClaim := { program := "ytkfdjffoljkomaadoor", sum := "4a7627914bcdd886e119d8ee2afe18257b711f51099466de7ab51acf9c9e6924", func := "diaeresis/diaeresislaw16.EditMakes", spec := "editMakes", inPlace := ["internal/reflectlite.TypeOf", "internal/bytealg.CountString", "internal/bytealg.IndexByteString", "internal/bytealg.IndexString"], unfollowed := true, recurses := true, named := ["diaeresis/edit.errEdit", "unicode/utf8.first", "unicode/utf8.acceptRanges", "internal/bytealg.MaxLen"], apart := false, laid := [("unicode/utf8.acceptRanges", laid_unicode_utf8_acceptRanges), ("diaeresis/edit.errEdit", laid_diaeresis_edit_errEdit), ("unicode/utf8.first", laid_unicode_utf8_first)], narrowed := true }
def EditMakesUptoSaid : Prop := editMakesUptoRow.holds Tryd.pinned (OpenSpec.upto editMakesSpec)

end Rows
end Go.Proofs.YtkfdjffoljkomaaDoor
