/-
  NARROWER THAN 'FOR EVERY INPUT', by the rows' own cells (each row's printed sentence says how): GroupMatches: laid · GroupWhole: laid · GroupDeeper: laid · GroupJoins: laid · GroupParts: laid · GroupPartners: laid.
  DERIVED. THE GIVEN ROWS OF THIS SEAT. 6 by the template 'for every input the law returns true; each argument reads behind the call as it read before'; 0 by the template 'total and deterministic' (their statements: YtlokkdbgihbnhaaDoorTotals.lean).
  GIVEN WITH THE SEED: the statements are not yours to turn. If you find one false, say at which input.
  Laid BY PROGRAM, IN A SANDBOX (cutbox-rows.mjs): the forced cells as the released guide's own fill.sh prints them over the translation 80cbb99b938b8cd7… (all of the seat's roots in one cut). By AI agents, Wed Nov 11 2026. No macro, syntax, notation, axiom, sorry.
-/
import Derived.Test.YtlokkdbgihbnhaaDoorChecked
import GoSem.Claim
import GoSem.ClaimJoined
import GoSem.ClaimMapViews
import Derived.JoinedTies
import Derived.KernelRfl
namespace Go.Proofs.YtlokkdbgihbnhaaDoor
/- THE CELL 'sum', in the pinned program and in every row, IS THE sha256 OF THE DUMP (.gsa) THAT YtlokkdbgihbnhaaDoorProg.lean LOADS. Nothing in Lean hashes anything: it is a label: what it is worth is what the hold of that sum in a sandbox is worth. -/
noncomputable def Tryd.pinned : Pinned := { name := "ytlokkdbgihbnhaadoor", sum := "80cbb99b938b8cd73a5942f2f514d5809bcca1cf6e9b6400349a920c2c87e50d", checked := Tryd.checked }
namespace Rows
def none {H : Type} : Left H := { results := [], args := [] }

/- WHAT THE LISTED PACKAGE-LEVEL VARIABLES READ AS WHEN THE CALL BEGINS. Each datum BY PROGRAM (the guide's laid-datum.mjs) off the statement by which the dump's own 'gosem.cut.vars' lays the variable. In a bare row this is a premise. The card (YtlokkdbgihbnhaaDoorCards.lean) ties it to the program's text. -/
def laid_errors_errorType {H : Type} : DataW H := .iface "internal/reflectlite.rtype" (.agg [.ptr (.lit (.string [101, 114, 114, 111, 114]))])
def laid_diaeresis_group_errGroup {H : Type} : DataW H := .iface "*errors.errorString" (.ptr (.agg [.lit (.string [110, 111, 32, 109, 97, 116, 99, 104])]))

/-- 'diaeresislaw06.GroupMatches': WHATEVER THE INPUT: true; the input reads as it did. -/
def groupMatchesSpec : ChangeSpec := { name := "groupMatches", fn := fun _ => fun
  | [d1, d2] => { results := [.lit (.bool true)], args := [d1, d2] }
  | _ => none }
def groupMatchesRow : OpenClaim := { program := "ytlokkdbgihbnhaadoor", sum := "80cbb99b938b8cd73a5942f2f514d5809bcca1cf6e9b6400349a920c2c87e50d", func := "diaeresis/diaeresislaw06.GroupMatches", spec := "groupMatches", inPlace := ["internal/reflectlite.ValueOf", "(internal/reflectlite.Value).Type", "(internal/reflectlite.Value).IsNil", "internal/reflectlite.TypeOf", "(internal/reflectlite.Value).Elem", "(internal/reflectlite.Value).Set"], unfollowed := true, recurses := true, named := ["diaeresis/group.errGroup", "errors.errorType"], apart := false, laid := [("errors.errorType", laid_errors_errorType), ("diaeresis/group.errGroup", laid_diaeresis_group_errGroup)] }
def GroupMatchesSaid : Prop := groupMatchesRow.holds Tryd.pinned (OpenSpec.ofChange groupMatchesSpec)

/-- ITS FALSE NEIGHBOUR: 'it returns false'. Refute it at one input. -/
def groupMatchesWrong : ChangeSpec := { name := "groupMatches", fn := fun _ => fun
  | [d1, d2] => { results := [.lit (.bool false)], args := [d1, d2] }
  | _ => none }
def GroupMatchesWrongFalsely : Prop := groupMatchesRow.holds Tryd.pinned (OpenSpec.ofChange groupMatchesWrong)

/-- 'diaeresislaw06.GroupWhole': WHATEVER THE INPUT: true; the input reads as it did. -/
def groupWholeSpec : ChangeSpec := { name := "groupWhole", fn := fun _ => fun
  | [d1, d2] => { results := [.lit (.bool true)], args := [d1, d2] }
  | _ => none }
def groupWholeRow : OpenClaim := { program := "ytlokkdbgihbnhaadoor", sum := "80cbb99b938b8cd73a5942f2f514d5809bcca1cf6e9b6400349a920c2c87e50d", func := "diaeresis/diaeresislaw06.GroupWhole", spec := "groupWhole", inPlace := ["internal/reflectlite.ValueOf", "(internal/reflectlite.Value).Type", "(internal/reflectlite.Value).IsNil", "internal/reflectlite.TypeOf", "(internal/reflectlite.Value).Elem", "(internal/reflectlite.Value).Set"], unfollowed := true, recurses := true, named := ["diaeresis/group.errGroup", "errors.errorType"], apart := false, laid := [("errors.errorType", laid_errors_errorType), ("diaeresis/group.errGroup", laid_diaeresis_group_errGroup)] }
def GroupWholeSaid : Prop := groupWholeRow.holds Tryd.pinned (OpenSpec.ofChange groupWholeSpec)

/-- ITS FALSE NEIGHBOUR: 'it returns false'. Refute it at one input. -/
def groupWholeWrong : ChangeSpec := { name := "groupWhole", fn := fun _ => fun
  | [d1, d2] => { results := [.lit (.bool false)], args := [d1, d2] }
  | _ => none }
def GroupWholeWrongFalsely : Prop := groupWholeRow.holds Tryd.pinned (OpenSpec.ofChange groupWholeWrong)

/-- 'diaeresislaw06.GroupDeeper': WHATEVER THE INPUT: true; the input reads as it did. -/
def groupDeeperSpec : ChangeSpec := { name := "groupDeeper", fn := fun _ => fun
  | [d] => { results := [.lit (.bool true)], args := [d] }
  | _ => none }
def groupDeeperRow : OpenClaim := { program := "ytlokkdbgihbnhaadoor", sum := "80cbb99b938b8cd73a5942f2f514d5809bcca1cf6e9b6400349a920c2c87e50d", func := "diaeresis/diaeresislaw06.GroupDeeper", spec := "groupDeeper", inPlace := ["internal/reflectlite.ValueOf", "(internal/reflectlite.Value).Type", "(internal/reflectlite.Value).IsNil", "internal/reflectlite.TypeOf", "(internal/reflectlite.Value).Elem", "(internal/reflectlite.Value).Set"], unfollowed := true, recurses := true, named := ["diaeresis/group.errGroup", "errors.errorType"], apart := false, laid := [("errors.errorType", laid_errors_errorType), ("diaeresis/group.errGroup", laid_diaeresis_group_errGroup)] }
def GroupDeeperSaid : Prop := groupDeeperRow.holds Tryd.pinned (OpenSpec.ofChange groupDeeperSpec)

/-- ITS FALSE NEIGHBOUR: 'it returns false'. Refute it at one input. -/
def groupDeeperWrong : ChangeSpec := { name := "groupDeeper", fn := fun _ => fun
  | [d] => { results := [.lit (.bool false)], args := [d] }
  | _ => none }
def GroupDeeperWrongFalsely : Prop := groupDeeperRow.holds Tryd.pinned (OpenSpec.ofChange groupDeeperWrong)

/-- 'diaeresislaw06.GroupJoins': WHATEVER THE INPUT: true; the input reads as it did. -/
def groupJoinsSpec : ChangeSpec := { name := "groupJoins", fn := fun _ => fun
  | [d1, d2] => { results := [.lit (.bool true)], args := [d1, d2] }
  | _ => none }
def groupJoinsRow : OpenClaim := { program := "ytlokkdbgihbnhaadoor", sum := "80cbb99b938b8cd73a5942f2f514d5809bcca1cf6e9b6400349a920c2c87e50d", func := "diaeresis/diaeresislaw06.GroupJoins", spec := "groupJoins", inPlace := ["internal/reflectlite.ValueOf", "(internal/reflectlite.Value).Type", "(internal/reflectlite.Value).IsNil", "internal/reflectlite.TypeOf", "(internal/reflectlite.Value).Elem", "(internal/reflectlite.Value).Set"], unfollowed := true, recurses := true, named := ["diaeresis/group.errGroup", "errors.errorType"], apart := false, laid := [("errors.errorType", laid_errors_errorType), ("diaeresis/group.errGroup", laid_diaeresis_group_errGroup)] }
def GroupJoinsSaid : Prop := groupJoinsRow.holds Tryd.pinned (OpenSpec.ofChange groupJoinsSpec)

/-- ITS FALSE NEIGHBOUR: 'it returns false'. Refute it at one input. -/
def groupJoinsWrong : ChangeSpec := { name := "groupJoins", fn := fun _ => fun
  | [d1, d2] => { results := [.lit (.bool false)], args := [d1, d2] }
  | _ => none }
def GroupJoinsWrongFalsely : Prop := groupJoinsRow.holds Tryd.pinned (OpenSpec.ofChange groupJoinsWrong)

/-- 'diaeresislaw06.GroupParts': WHATEVER THE INPUT: true; the input reads as it did. -/
def groupPartsSpec : ChangeSpec := { name := "groupParts", fn := fun _ => fun
  | [d1, d2, d3] => { results := [.lit (.bool true)], args := [d1, d2, d3] }
  | _ => none }
def groupPartsRow : OpenClaim := { program := "ytlokkdbgihbnhaadoor", sum := "80cbb99b938b8cd73a5942f2f514d5809bcca1cf6e9b6400349a920c2c87e50d", func := "diaeresis/diaeresislaw06.GroupParts", spec := "groupParts", inPlace := ["internal/reflectlite.ValueOf", "(internal/reflectlite.Value).Type", "(internal/reflectlite.Value).IsNil", "internal/reflectlite.TypeOf", "(internal/reflectlite.Value).Elem", "(internal/reflectlite.Value).Set"], unfollowed := true, recurses := true, named := ["diaeresis/group.errGroup", "errors.errorType"], apart := false, laid := [("errors.errorType", laid_errors_errorType), ("diaeresis/group.errGroup", laid_diaeresis_group_errGroup)] }
def GroupPartsSaid : Prop := groupPartsRow.holds Tryd.pinned (OpenSpec.ofChange groupPartsSpec)

/-- ITS FALSE NEIGHBOUR: 'it returns false'. Refute it at one input. -/
def groupPartsWrong : ChangeSpec := { name := "groupParts", fn := fun _ => fun
  | [d1, d2, d3] => { results := [.lit (.bool false)], args := [d1, d2, d3] }
  | _ => none }
def GroupPartsWrongFalsely : Prop := groupPartsRow.holds Tryd.pinned (OpenSpec.ofChange groupPartsWrong)

/-- 'diaeresislaw06.GroupPartners': WHATEVER THE INPUT: true; the input reads as it did. -/
def groupPartnersSpec : ChangeSpec := { name := "groupPartners", fn := fun _ => fun
  | [d] => { results := [.lit (.bool true)], args := [d] }
  | _ => none }
def groupPartnersRow : OpenClaim := { program := "ytlokkdbgihbnhaadoor", sum := "80cbb99b938b8cd73a5942f2f514d5809bcca1cf6e9b6400349a920c2c87e50d", func := "diaeresis/diaeresislaw06.GroupPartners", spec := "groupPartners", inPlace := ["internal/reflectlite.ValueOf", "(internal/reflectlite.Value).Type", "(internal/reflectlite.Value).IsNil", "internal/reflectlite.TypeOf", "(internal/reflectlite.Value).Elem", "(internal/reflectlite.Value).Set"], unfollowed := true, recurses := true, named := ["diaeresis/group.errGroup", "errors.errorType"], apart := false, laid := [("errors.errorType", laid_errors_errorType), ("diaeresis/group.errGroup", laid_diaeresis_group_errGroup)] }
def GroupPartnersSaid : Prop := groupPartnersRow.holds Tryd.pinned (OpenSpec.ofChange groupPartnersSpec)

/-- ITS FALSE NEIGHBOUR: 'it returns false'. Refute it at one input. -/
def groupPartnersWrong : ChangeSpec := { name := "groupPartners", fn := fun _ => fun
  | [d] => { results := [.lit (.bool false)], args := [d] }
  | _ => none }
def GroupPartnersWrongFalsely : Prop := groupPartnersRow.holds Tryd.pinned (OpenSpec.ofChange groupPartnersWrong)

/- THE SECOND FORM. 'bulk': how many values and letters a reading holds, each counted each time it is reached (what is shared counts as often as it is met; a slice's spare places count too). A statement '..UptoSaid' is the law's where the arguments, and the package variables that the reading takes, are together of bulk at most 1048576: NARROWER than '..Said'. Prove '..Said' where nothing that the law and all that it calls make is longer than what came in: it says more and counts as full. Else prove '..UptoSaid'. A law counts once. -/
mutual
def uptoBulk {H : Type} : DataW H → Nat
  | .lit (.string bytes) => bytes.length + 1
  | .lit _ => 1
  | .nil => 1
  | .ptr d => uptoBulk d + 1
  | .slice elems spare => uptoBulkAll elems + uptoBulkAll spare + 1
  | .agg parts => uptoBulkAll parts + 1
  | .iface _ d => uptoBulk d + 1
  | .map entries => uptoBulkEntries entries + 1
  | .held _ => 1
def uptoBulkAll {H : Type} : List (DataW H) → Nat
  | [] => 0
  | d :: r => uptoBulk d + uptoBulkAll r
def uptoBulkEntries {H : Type} : List (Lit × DataW H) → Nat
  | [] => 0
  | x :: r => uptoBulkEntry x + uptoBulkEntries r
def uptoBulkEntry {H : Type} : Lit × DataW H → Nat
  | (.string bytes, d) => bytes.length + uptoBulk d + 1
  | (_, d) => uptoBulk d + 1
 end
def uptoSmall : (H : Type) → List (DataW H) → Bool := fun _ ds => decide (uptoBulkAll ds ≤ 1048576)
def OpenSpec.upto (s : _root_.Go.ChangeSpec) : _root_.Go.OpenSpec := { _root_.Go.OpenSpec.ofChange s with cond := some uptoSmall }

/-- 'diaeresislaw06.GroupMatches', WHERE WHAT IT READS IS OF BULK AT MOST 1048576: true; the input reads as it did. -/
def groupMatchesUptoRow : OpenClaim := { program := "ytlokkdbgihbnhaadoor", sum := "80cbb99b938b8cd73a5942f2f514d5809bcca1cf6e9b6400349a920c2c87e50d", func := "diaeresis/diaeresislaw06.GroupMatches", spec := "groupMatches", inPlace := ["internal/reflectlite.ValueOf", "(internal/reflectlite.Value).Type", "(internal/reflectlite.Value).IsNil", "internal/reflectlite.TypeOf", "(internal/reflectlite.Value).Elem", "(internal/reflectlite.Value).Set"], unfollowed := true, recurses := true, named := ["diaeresis/group.errGroup", "errors.errorType"], apart := false, laid := [("errors.errorType", laid_errors_errorType), ("diaeresis/group.errGroup", laid_diaeresis_group_errGroup)], narrowed := true }
def GroupMatchesUptoSaid : Prop := groupMatchesUptoRow.holds Tryd.pinned (OpenSpec.upto groupMatchesSpec)

/-- 'diaeresislaw06.GroupWhole', WHERE WHAT IT READS IS OF BULK AT MOST 1048576: true; the input reads as it did. -/
def groupWholeUptoRow : OpenClaim := { program := "ytlokkdbgihbnhaadoor", sum := "80cbb99b938b8cd73a5942f2f514d5809bcca1cf6e9b6400349a920c2c87e50d", func := "diaeresis/diaeresislaw06.GroupWhole", spec := "groupWhole", inPlace := ["internal/reflectlite.ValueOf", "(internal/reflectlite.Value).Type", "(internal/reflectlite.Value).IsNil", "internal/reflectlite.TypeOf", "(internal/reflectlite.Value).Elem", "(internal/reflectlite.Value).Set"], unfollowed := true, recurses := true, named := ["diaeresis/group.errGroup", "errors.errorType"], apart := false, laid := [("errors.errorType", laid_errors_errorType), ("diaeresis/group.errGroup", laid_diaeresis_group_errGroup)], narrowed := true }
def GroupWholeUptoSaid : Prop := groupWholeUptoRow.holds Tryd.pinned (OpenSpec.upto groupWholeSpec)

/-- 'diaeresislaw06.GroupDeeper', WHERE WHAT IT READS IS OF BULK AT MOST 1048576: true; the input reads as it did. -/
def groupDeeperUptoRow : OpenClaim := { program := "ytlokkdbgihbnhaadoor", sum := "80cbb99b938b8cd73a5942f2f514d5809bcca1cf6e9b6400349a920c2c87e50d", func := "diaeresis/diaeresislaw06.GroupDeeper", spec := "groupDeeper", inPlace := ["internal/reflectlite.ValueOf", "(internal/reflectlite.Value).Type", "(internal/reflectlite.Value).IsNil", "internal/reflectlite.TypeOf", "(internal/reflectlite.Value).Elem", "(internal/reflectlite.Value).Set"], unfollowed := true, recurses := true, named := ["diaeresis/group.errGroup", "errors.errorType"], apart := false, laid := [("errors.errorType", laid_errors_errorType), ("diaeresis/group.errGroup", laid_diaeresis_group_errGroup)], narrowed := true }
def GroupDeeperUptoSaid : Prop := groupDeeperUptoRow.holds Tryd.pinned (OpenSpec.upto groupDeeperSpec)

/-- 'diaeresislaw06.GroupJoins', WHERE WHAT IT READS IS OF BULK AT MOST 1048576: true; the input reads as it did. -/
def groupJoinsUptoRow : OpenClaim := { program := "ytlokkdbgihbnhaadoor", sum := "80cbb99b938b8cd73a5942f2f514d5809bcca1cf6e9b6400349a920c2c87e50d", func := "diaeresis/diaeresislaw06.GroupJoins", spec := "groupJoins", inPlace := ["internal/reflectlite.ValueOf", "(internal/reflectlite.Value).Type", "(internal/reflectlite.Value).IsNil", "internal/reflectlite.TypeOf", "(internal/reflectlite.Value).Elem", "(internal/reflectlite.Value).Set"], unfollowed := true, recurses := true, named := ["diaeresis/group.errGroup", "errors.errorType"], apart := false, laid := [("errors.errorType", laid_errors_errorType), ("diaeresis/group.errGroup", laid_diaeresis_group_errGroup)], narrowed := true }
def GroupJoinsUptoSaid : Prop := groupJoinsUptoRow.holds Tryd.pinned (OpenSpec.upto groupJoinsSpec)

/-- 'diaeresislaw06.GroupParts', WHERE WHAT IT READS IS OF BULK AT MOST 1048576: true; the input reads as it did. -/
def groupPartsUptoRow : OpenClaim := { program := "ytlokkdbgihbnhaadoor", sum := "80cbb99b938b8cd73a5942f2f514d5809bcca1cf6e9b6400349a920c2c87e50d", func := "diaeresis/diaeresislaw06.GroupParts", spec := "groupParts", inPlace := ["internal/reflectlite.ValueOf", "(internal/reflectlite.Value).Type", "(internal/reflectlite.Value).IsNil", "internal/reflectlite.TypeOf", "(internal/reflectlite.Value).Elem", "(internal/reflectlite.Value).Set"], unfollowed := true, recurses := true, named := ["diaeresis/group.errGroup", "errors.errorType"], apart := false, laid := [("errors.errorType", laid_errors_errorType), ("diaeresis/group.errGroup", laid_diaeresis_group_errGroup)], narrowed := true }
def GroupPartsUptoSaid : Prop := groupPartsUptoRow.holds Tryd.pinned (OpenSpec.upto groupPartsSpec)

/-- 'diaeresislaw06.GroupPartners', WHERE WHAT IT READS IS OF BULK AT MOST 1048576: true; the input reads as it did. -/
def groupPartnersUptoRow : OpenClaim := { program := "ytlokkdbgihbnhaadoor", sum := "80cbb99b938b8cd73a5942f2f514d5809bcca1cf6e9b6400349a920c2c87e50d", func := "diaeresis/diaeresislaw06.GroupPartners", spec := "groupPartners", inPlace := ["internal/reflectlite.ValueOf", "(internal/reflectlite.Value).Type", "(internal/reflectlite.Value).IsNil", "internal/reflectlite.TypeOf", "(internal/reflectlite.Value).Elem", "(internal/reflectlite.Value).Set"], unfollowed := true, recurses := true, named := ["diaeresis/group.errGroup", "errors.errorType"], apart := false, laid := [("errors.errorType", laid_errors_errorType), ("diaeresis/group.errGroup", laid_diaeresis_group_errGroup)], narrowed := true }
def GroupPartnersUptoSaid : Prop := groupPartnersUptoRow.holds Tryd.pinned (OpenSpec.upto groupPartnersSpec)

end Rows
end Go.Proofs.YtlokkdbgihbnhaaDoor
