/-
  NARROWER THAN 'FOR EVERY INPUT', by the rows' own cells (each row's printed sentence says how): RelexKeeps: laid · RelexFew: laid · RelexSplices: laid · RelexWhole: laid · RelexNone: laid · RelexJoins: laid.
  DERIVED. THE GIVEN ROWS OF THIS SEAT. 6 by the template 'for every input the law returns true; each argument reads behind the call as it read before'; 0 by the template 'total and deterministic' (their statements: YtflpihedhccdfaaGreatDoorTotals.lean).
  GIVEN WITH THE SEED: the statements are not yours to turn. If you find one false, say at which input.
  Laid BY PROGRAM, IN A SANDBOX (cutbox-rows.mjs): the forced cells as the released guide's own fill.sh prints them over the translation f787a03a849db1a4… (all of the seat's roots in one cut). By AI agents, Wed Nov 11 2026. No macro, syntax, notation, axiom, sorry.
-/
import Derived.Test.YtflpihedhccdfaaGreatDoorChecked
import GoSem.PinnedTables
import GoSem.Claim
import GoSem.ClaimJoined
import GoSem.ClaimMapViews
import Derived.JoinedTies
import Derived.KernelRfl
namespace Go.Proofs.YtflpihedhccdfaaGreatDoor
/- THE CELL 'sum', in the pinned program and in every row, IS THE sha256 OF THE DUMP (.gsa) THAT YtflpihedhccdfaaGreatDoorProg.lean LOADS. Nothing in Lean hashes anything: it is a label: what it is worth is what the hold of that sum in a sandbox is worth. -/
noncomputable def Tryz.pinned : Pinned := { name := "ytflpihedhccdfaagreatdoor", sum := "f787a03a849db1a4203c524a13613a88146d97dbe04eaa9f393978486aeaa1f6", checked := Tryz.checked }
namespace Rows
def none {H : Type} : Left H := { results := [], args := [] }

/- WHAT THE LISTED PACKAGE-LEVEL VARIABLES READ AS WHEN THE CALL BEGINS. Each datum BY PROGRAM (the guide's laid-datum.mjs) off the statement by which the dump's own 'gosem.cut.vars' lays the variable. In a bare row this is a premise. The card (YtflpihedhccdfaaGreatDoorCards.lean) ties it to the program's text. -/
def laid_unicode_utf8_acceptRanges {H : Type} : DataW H := .agg [.agg [.lit (.int .u8 128), .lit (.int .u8 191)], .agg [.lit (.int .u8 160), .lit (.int .u8 191)], .agg [.lit (.int .u8 128), .lit (.int .u8 159)], .agg [.lit (.int .u8 144), .lit (.int .u8 191)], .agg [.lit (.int .u8 128), .lit (.int .u8 143)], .agg [.lit (.int .u8 0), .lit (.int .u8 0)], .agg [.lit (.int .u8 0), .lit (.int .u8 0)], .agg [.lit (.int .u8 0), .lit (.int .u8 0)], .agg [.lit (.int .u8 0), .lit (.int .u8 0)], .agg [.lit (.int .u8 0), .lit (.int .u8 0)], .agg [.lit (.int .u8 0), .lit (.int .u8 0)], .agg [.lit (.int .u8 0), .lit (.int .u8 0)], .agg [.lit (.int .u8 0), .lit (.int .u8 0)], .agg [.lit (.int .u8 0), .lit (.int .u8 0)], .agg [.lit (.int .u8 0), .lit (.int .u8 0)], .agg [.lit (.int .u8 0), .lit (.int .u8 0)]]
def laid_diaeresis_relex_errRange {H : Type} : DataW H := .iface "*errors.errorString" (.ptr (.agg [.lit (.string [111, 117, 116, 32, 111, 102, 32, 114, 97, 110, 103, 101])]))
def laid_diaeresis_relex_errFull {H : Type} : DataW H := .iface "*errors.errorString" (.ptr (.agg [.lit (.string [116, 111, 111, 32, 108, 111, 110, 103])]))
/-- One of Go's own tables, pinned by name: the form's constant. -/
def laid_unicode_utf8_first : DataW Unit := Go.Pinned.utf8First

/-- 'diaeresislaw05.RelexKeeps': WHATEVER THE INPUT: true; the input reads as it did. -/
def relexKeepsSpec : ChangeSpec := { name := "relexKeeps", fn := fun _ => fun
  | [d1, d2, d3, d4] => { results := [.lit (.bool true)], args := [d1, d2, d3, d4] }
  | _ => none }
def relexKeepsRow : OpenClaim := { program := "ytflpihedhccdfaagreatdoor", sum := "f787a03a849db1a4203c524a13613a88146d97dbe04eaa9f393978486aeaa1f6", func := "diaeresis/diaeresislaw05.RelexKeeps", spec := "relexKeeps", inPlace := ["internal/reflectlite.TypeOf", "internal/bytealg.CountString", "internal/bytealg.IndexByteString", "internal/bytealg.IndexString", "sync/atomic.LoadUint32", "(*internal/sync.Mutex).Lock", "internal/race.Disable", "sync/atomic.CompareAndSwapInt32", "internal/race.Enable", "internal/race.Acquire", "(*internal/sync.Mutex).lockSlow", "internal/sync.runtime_canSpin", "internal/sync.runtime_doSpin", "internal/sync.throw", "internal/sync.runtime_nanotime", "internal/sync.runtime_SemacquireMutex", "sync/atomic.AddInt32", "(*internal/sync.Mutex).Unlock", "internal/race.ReleaseMerge", "(*internal/sync.Mutex).unlockSlow", "internal/sync.fatal", "internal/sync.runtime_Semrelease", "sync/atomic.StoreUint32", "sync/atomic.AddInt64", "internal/abi.NoEscape", "internal/bytealg.MakeNoZero", "sync/atomic.LoadInt64"], unfollowed := true, recurses := true, named := ["diaeresis/relex.errFull", "diaeresis/relex.errRange", "unicode/utf8.first", "unicode/utf8.acceptRanges", "internal/bytealg.MaxLen"], apart := false, laid := [("unicode/utf8.acceptRanges", laid_unicode_utf8_acceptRanges), ("diaeresis/relex.errRange", laid_diaeresis_relex_errRange), ("diaeresis/relex.errFull", laid_diaeresis_relex_errFull), ("unicode/utf8.first", laid_unicode_utf8_first)] }
def RelexKeepsSaid : Prop := relexKeepsRow.holds Tryz.pinned (OpenSpec.ofChange relexKeepsSpec)

/-- ITS FALSE NEIGHBOUR: 'it returns false'. Refute it at one input. -/
def relexKeepsWrong : ChangeSpec := { name := "relexKeeps", fn := fun _ => fun
  | [d1, d2, d3, d4] => { results := [.lit (.bool false)], args := [d1, d2, d3, d4] }
  | _ => none }
def RelexKeepsWrongFalsely : Prop := relexKeepsRow.holds Tryz.pinned (OpenSpec.ofChange relexKeepsWrong)

/-- 'diaeresislaw05.RelexFew': WHATEVER THE INPUT: true; the input reads as it did. -/
def relexFewSpec : ChangeSpec := { name := "relexFew", fn := fun _ => fun
  | [d1, d2] => { results := [.lit (.bool true)], args := [d1, d2] }
  | _ => none }
def relexFewRow : OpenClaim := { program := "ytflpihedhccdfaagreatdoor", sum := "f787a03a849db1a4203c524a13613a88146d97dbe04eaa9f393978486aeaa1f6", func := "diaeresis/diaeresislaw05.RelexFew", spec := "relexFew", inPlace := ["internal/reflectlite.TypeOf", "internal/bytealg.CountString", "internal/bytealg.IndexByteString", "internal/bytealg.IndexString", "sync/atomic.LoadUint32", "(*internal/sync.Mutex).Lock", "internal/race.Disable", "sync/atomic.CompareAndSwapInt32", "internal/race.Enable", "internal/race.Acquire", "(*internal/sync.Mutex).lockSlow", "internal/sync.runtime_canSpin", "internal/sync.runtime_doSpin", "internal/sync.throw", "internal/sync.runtime_nanotime", "internal/sync.runtime_SemacquireMutex", "sync/atomic.AddInt32", "(*internal/sync.Mutex).Unlock", "internal/race.ReleaseMerge", "(*internal/sync.Mutex).unlockSlow", "internal/sync.fatal", "internal/sync.runtime_Semrelease", "sync/atomic.StoreUint32", "sync/atomic.AddInt64", "internal/abi.NoEscape", "internal/bytealg.MakeNoZero", "sync/atomic.LoadInt64"], unfollowed := true, recurses := true, named := ["diaeresis/relex.errFull", "diaeresis/relex.errRange", "unicode/utf8.first", "unicode/utf8.acceptRanges", "internal/bytealg.MaxLen"], apart := false, laid := [("unicode/utf8.acceptRanges", laid_unicode_utf8_acceptRanges), ("diaeresis/relex.errRange", laid_diaeresis_relex_errRange), ("diaeresis/relex.errFull", laid_diaeresis_relex_errFull), ("unicode/utf8.first", laid_unicode_utf8_first)] }
def RelexFewSaid : Prop := relexFewRow.holds Tryz.pinned (OpenSpec.ofChange relexFewSpec)

/-- ITS FALSE NEIGHBOUR: 'it returns false'. Refute it at one input. -/
def relexFewWrong : ChangeSpec := { name := "relexFew", fn := fun _ => fun
  | [d1, d2] => { results := [.lit (.bool false)], args := [d1, d2] }
  | _ => none }
def RelexFewWrongFalsely : Prop := relexFewRow.holds Tryz.pinned (OpenSpec.ofChange relexFewWrong)

/-- 'diaeresislaw05.RelexSplices': WHATEVER THE INPUT: true; the input reads as it did. -/
def relexSplicesSpec : ChangeSpec := { name := "relexSplices", fn := fun _ => fun
  | [d1, d2, d3] => { results := [.lit (.bool true)], args := [d1, d2, d3] }
  | _ => none }
def relexSplicesRow : OpenClaim := { program := "ytflpihedhccdfaagreatdoor", sum := "f787a03a849db1a4203c524a13613a88146d97dbe04eaa9f393978486aeaa1f6", func := "diaeresis/diaeresislaw05.RelexSplices", spec := "relexSplices", inPlace := ["internal/reflectlite.TypeOf", "internal/bytealg.CountString", "internal/bytealg.IndexByteString", "internal/bytealg.IndexString", "sync/atomic.LoadUint32", "(*internal/sync.Mutex).Lock", "internal/race.Disable", "sync/atomic.CompareAndSwapInt32", "internal/race.Enable", "internal/race.Acquire", "(*internal/sync.Mutex).lockSlow", "internal/sync.runtime_canSpin", "internal/sync.runtime_doSpin", "internal/sync.throw", "internal/sync.runtime_nanotime", "internal/sync.runtime_SemacquireMutex", "sync/atomic.AddInt32", "(*internal/sync.Mutex).Unlock", "internal/race.ReleaseMerge", "(*internal/sync.Mutex).unlockSlow", "internal/sync.fatal", "internal/sync.runtime_Semrelease", "sync/atomic.StoreUint32", "sync/atomic.AddInt64", "internal/abi.NoEscape", "internal/bytealg.MakeNoZero", "sync/atomic.LoadInt64"], unfollowed := true, recurses := true, named := ["diaeresis/relex.errFull", "diaeresis/relex.errRange", "unicode/utf8.first", "unicode/utf8.acceptRanges", "internal/bytealg.MaxLen"], apart := false, laid := [("unicode/utf8.acceptRanges", laid_unicode_utf8_acceptRanges), ("diaeresis/relex.errRange", laid_diaeresis_relex_errRange), ("diaeresis/relex.errFull", laid_diaeresis_relex_errFull), ("unicode/utf8.first", laid_unicode_utf8_first)] }
def RelexSplicesSaid : Prop := relexSplicesRow.holds Tryz.pinned (OpenSpec.ofChange relexSplicesSpec)

/-- ITS FALSE NEIGHBOUR: 'it returns false'. Refute it at one input. -/
def relexSplicesWrong : ChangeSpec := { name := "relexSplices", fn := fun _ => fun
  | [d1, d2, d3] => { results := [.lit (.bool false)], args := [d1, d2, d3] }
  | _ => none }
def RelexSplicesWrongFalsely : Prop := relexSplicesRow.holds Tryz.pinned (OpenSpec.ofChange relexSplicesWrong)

/-- 'diaeresislaw05.RelexWhole': WHATEVER THE INPUT: true; the input reads as it did. -/
def relexWholeSpec : ChangeSpec := { name := "relexWhole", fn := fun _ => fun
  | [d1, d2] => { results := [.lit (.bool true)], args := [d1, d2] }
  | _ => none }
def relexWholeRow : OpenClaim := { program := "ytflpihedhccdfaagreatdoor", sum := "f787a03a849db1a4203c524a13613a88146d97dbe04eaa9f393978486aeaa1f6", func := "diaeresis/diaeresislaw05.RelexWhole", spec := "relexWhole", inPlace := ["internal/reflectlite.TypeOf", "internal/bytealg.CountString", "internal/bytealg.IndexByteString", "internal/bytealg.IndexString", "sync/atomic.LoadUint32", "(*internal/sync.Mutex).Lock", "internal/race.Disable", "sync/atomic.CompareAndSwapInt32", "internal/race.Enable", "internal/race.Acquire", "(*internal/sync.Mutex).lockSlow", "internal/sync.runtime_canSpin", "internal/sync.runtime_doSpin", "internal/sync.throw", "internal/sync.runtime_nanotime", "internal/sync.runtime_SemacquireMutex", "sync/atomic.AddInt32", "(*internal/sync.Mutex).Unlock", "internal/race.ReleaseMerge", "(*internal/sync.Mutex).unlockSlow", "internal/sync.fatal", "internal/sync.runtime_Semrelease", "sync/atomic.StoreUint32", "sync/atomic.AddInt64", "internal/abi.NoEscape", "internal/bytealg.MakeNoZero", "sync/atomic.LoadInt64"], unfollowed := true, recurses := true, named := ["diaeresis/relex.errFull", "diaeresis/relex.errRange", "unicode/utf8.first", "unicode/utf8.acceptRanges", "internal/bytealg.MaxLen"], apart := false, laid := [("unicode/utf8.acceptRanges", laid_unicode_utf8_acceptRanges), ("diaeresis/relex.errRange", laid_diaeresis_relex_errRange), ("diaeresis/relex.errFull", laid_diaeresis_relex_errFull), ("unicode/utf8.first", laid_unicode_utf8_first)] }
def RelexWholeSaid : Prop := relexWholeRow.holds Tryz.pinned (OpenSpec.ofChange relexWholeSpec)

/-- ITS FALSE NEIGHBOUR: 'it returns false'. Refute it at one input. -/
def relexWholeWrong : ChangeSpec := { name := "relexWhole", fn := fun _ => fun
  | [d1, d2] => { results := [.lit (.bool false)], args := [d1, d2] }
  | _ => none }
def RelexWholeWrongFalsely : Prop := relexWholeRow.holds Tryz.pinned (OpenSpec.ofChange relexWholeWrong)

/-- 'diaeresislaw05.RelexNone': WHATEVER THE INPUT: true; the input reads as it did. -/
def relexNoneSpec : ChangeSpec := { name := "relexNone", fn := fun _ => fun
  | [d1, d2, d3, d4] => { results := [.lit (.bool true)], args := [d1, d2, d3, d4] }
  | _ => none }
def relexNoneRow : OpenClaim := { program := "ytflpihedhccdfaagreatdoor", sum := "f787a03a849db1a4203c524a13613a88146d97dbe04eaa9f393978486aeaa1f6", func := "diaeresis/diaeresislaw05.RelexNone", spec := "relexNone", inPlace := ["internal/reflectlite.TypeOf", "internal/bytealg.CountString", "internal/bytealg.IndexByteString", "internal/bytealg.IndexString", "sync/atomic.LoadUint32", "(*internal/sync.Mutex).Lock", "internal/race.Disable", "sync/atomic.CompareAndSwapInt32", "internal/race.Enable", "internal/race.Acquire", "(*internal/sync.Mutex).lockSlow", "internal/sync.runtime_canSpin", "internal/sync.runtime_doSpin", "internal/sync.throw", "internal/sync.runtime_nanotime", "internal/sync.runtime_SemacquireMutex", "sync/atomic.AddInt32", "(*internal/sync.Mutex).Unlock", "internal/race.ReleaseMerge", "(*internal/sync.Mutex).unlockSlow", "internal/sync.fatal", "internal/sync.runtime_Semrelease", "sync/atomic.StoreUint32", "sync/atomic.AddInt64", "internal/abi.NoEscape", "internal/bytealg.MakeNoZero", "sync/atomic.LoadInt64"], unfollowed := true, recurses := true, named := ["diaeresis/relex.errFull", "diaeresis/relex.errRange", "unicode/utf8.first", "unicode/utf8.acceptRanges", "internal/bytealg.MaxLen"], apart := false, laid := [("unicode/utf8.acceptRanges", laid_unicode_utf8_acceptRanges), ("diaeresis/relex.errRange", laid_diaeresis_relex_errRange), ("diaeresis/relex.errFull", laid_diaeresis_relex_errFull), ("unicode/utf8.first", laid_unicode_utf8_first)] }
def RelexNoneSaid : Prop := relexNoneRow.holds Tryz.pinned (OpenSpec.ofChange relexNoneSpec)

/-- ITS FALSE NEIGHBOUR: 'it returns false'. Refute it at one input. -/
def relexNoneWrong : ChangeSpec := { name := "relexNone", fn := fun _ => fun
  | [d1, d2, d3, d4] => { results := [.lit (.bool false)], args := [d1, d2, d3, d4] }
  | _ => none }
def RelexNoneWrongFalsely : Prop := relexNoneRow.holds Tryz.pinned (OpenSpec.ofChange relexNoneWrong)

/-- 'diaeresislaw05.RelexJoins': WHATEVER THE INPUT: true; the input reads as it did. -/
def relexJoinsSpec : ChangeSpec := { name := "relexJoins", fn := fun _ => fun
  | [d1, d2] => { results := [.lit (.bool true)], args := [d1, d2] }
  | _ => none }
def relexJoinsRow : OpenClaim := { program := "ytflpihedhccdfaagreatdoor", sum := "f787a03a849db1a4203c524a13613a88146d97dbe04eaa9f393978486aeaa1f6", func := "diaeresis/diaeresislaw05.RelexJoins", spec := "relexJoins", inPlace := ["internal/reflectlite.TypeOf", "internal/bytealg.CountString", "internal/bytealg.IndexByteString", "internal/bytealg.IndexString", "sync/atomic.LoadUint32", "(*internal/sync.Mutex).Lock", "internal/race.Disable", "sync/atomic.CompareAndSwapInt32", "internal/race.Enable", "internal/race.Acquire", "(*internal/sync.Mutex).lockSlow", "internal/sync.runtime_canSpin", "internal/sync.runtime_doSpin", "internal/sync.throw", "internal/sync.runtime_nanotime", "internal/sync.runtime_SemacquireMutex", "sync/atomic.AddInt32", "(*internal/sync.Mutex).Unlock", "internal/race.ReleaseMerge", "(*internal/sync.Mutex).unlockSlow", "internal/sync.fatal", "internal/sync.runtime_Semrelease", "sync/atomic.StoreUint32", "sync/atomic.AddInt64", "internal/abi.NoEscape", "internal/bytealg.MakeNoZero", "sync/atomic.LoadInt64"], unfollowed := true, recurses := true, named := ["diaeresis/relex.errFull", "diaeresis/relex.errRange", "unicode/utf8.first", "unicode/utf8.acceptRanges", "internal/bytealg.MaxLen"], apart := false, laid := [("unicode/utf8.acceptRanges", laid_unicode_utf8_acceptRanges), ("diaeresis/relex.errRange", laid_diaeresis_relex_errRange), ("diaeresis/relex.errFull", laid_diaeresis_relex_errFull), ("unicode/utf8.first", laid_unicode_utf8_first)] }
def RelexJoinsSaid : Prop := relexJoinsRow.holds Tryz.pinned (OpenSpec.ofChange relexJoinsSpec)

/-- ITS FALSE NEIGHBOUR: 'it returns false'. Refute it at one input. -/
def relexJoinsWrong : ChangeSpec := { name := "relexJoins", fn := fun _ => fun
  | [d1, d2] => { results := [.lit (.bool false)], args := [d1, d2] }
  | _ => none }
def RelexJoinsWrongFalsely : Prop := relexJoinsRow.holds Tryz.pinned (OpenSpec.ofChange relexJoinsWrong)

/- THE SECOND FORM. 'bulk': how many values and letters a reading holds, each counted each time it is reached (what is shared counts as often as it is met; a slice's spare places count too). A statement '..UptoSaid' is the law's where the arguments, and the package variables that the reading takes, are together of bulk at most 1048576: NARROWER than '..Said'. Prove '..Said' where nothing that the law and all that it calls make is longer than what came in: it says more and counts as full. Else prove '..UptoSaid'. A law counts once. -/
mutual
def uptoBulk {H : Type} : DataW H → Nat
  | .lit (.string bytes) => bytes.length + 1
  | .lit _ => 1
  | .nil => 1
  | .ptr d => uptoBulk d + 1
  | .slice elems spare => uptoBulkAll elems + uptoBulkAll spare + 1
  | .agg parts => uptoBulkAll parts + 1
  | .iface _ d => uptoBulk d + 1
  | .map entries => uptoBulkEntries entries + 1
  | .held _ => 1
def uptoBulkAll {H : Type} : List (DataW H) → Nat
  | [] => 0
  | d :: r => uptoBulk d + uptoBulkAll r
def uptoBulkEntries {H : Type} : List (Lit × DataW H) → Nat
  | [] => 0
  | x :: r => uptoBulkEntry x + uptoBulkEntries r
def uptoBulkEntry {H : Type} : Lit × DataW H → Nat
  | (.string bytes, d) => bytes.length + uptoBulk d + 1
  | (_, d) => uptoBulk d + 1
 end
def uptoSmall : (H : Type) → List (DataW H) → Bool := fun _ ds => decide (uptoBulkAll ds ≤ 1048576)
def OpenSpec.upto (s : _root_.Go.ChangeSpec) : _root_.Go.OpenSpec := { _root_.Go.OpenSpec.ofChange s with cond := some uptoSmall }

/-- 'diaeresislaw05.RelexKeeps', WHERE WHAT IT READS IS OF BULK AT MOST 1048576: true; the input reads as it did. -/
def relexKeepsUptoRow : OpenClaim := { program := "ytflpihedhccdfaagreatdoor", sum := "f787a03a849db1a4203c524a13613a88146d97dbe04eaa9f393978486aeaa1f6", func := "diaeresis/diaeresislaw05.RelexKeeps", spec := "relexKeeps", inPlace := ["internal/reflectlite.TypeOf", "internal/bytealg.CountString", "internal/bytealg.IndexByteString", "internal/bytealg.IndexString", "sync/atomic.LoadUint32", "(*internal/sync.Mutex).Lock", "internal/race.Disable", "sync/atomic.CompareAndSwapInt32", "internal/race.Enable", "internal/race.Acquire", "(*internal/sync.Mutex).lockSlow", "internal/sync.runtime_canSpin", "internal/sync.runtime_doSpin", "internal/sync.throw", "internal/sync.runtime_nanotime", "internal/sync.runtime_SemacquireMutex", "sync/atomic.AddInt32", "(*internal/sync.Mutex).Unlock", "internal/race.ReleaseMerge", "(*internal/sync.Mutex).unlockSlow", "internal/sync.fatal", "internal/sync.runtime_Semrelease", "sync/atomic.StoreUint32", "sync/atomic.AddInt64", "internal/abi.NoEscape", "internal/bytealg.MakeNoZero", "sync/atomic.LoadInt64"], unfollowed := true, recurses := true, named := ["diaeresis/relex.errFull", "diaeresis/relex.errRange", "unicode/utf8.first", "unicode/utf8.acceptRanges", "internal/bytealg.MaxLen"], apart := false, laid := [("unicode/utf8.acceptRanges", laid_unicode_utf8_acceptRanges), ("diaeresis/relex.errRange", laid_diaeresis_relex_errRange), ("diaeresis/relex.errFull", laid_diaeresis_relex_errFull), ("unicode/utf8.first", laid_unicode_utf8_first)], narrowed := true }
def RelexKeepsUptoSaid : Prop := relexKeepsUptoRow.holds Tryz.pinned (OpenSpec.upto relexKeepsSpec)

/-- 'diaeresislaw05.RelexFew', WHERE WHAT IT READS IS OF BULK AT MOST 1048576: true; the input reads as it did. -/
def relexFewUptoRow : OpenClaim := { program := "ytflpihedhccdfaagreatdoor", sum := "f787a03a849db1a4203c524a13613a88146d97dbe04eaa9f393978486aeaa1f6", func := "diaeresis/diaeresislaw05.RelexFew", spec := "relexFew", inPlace := ["internal/reflectlite.TypeOf", "internal/bytealg.CountString", "internal/bytealg.IndexByteString", "internal/bytealg.IndexString", "sync/atomic.LoadUint32", "(*internal/sync.Mutex).Lock", "internal/race.Disable", "sync/atomic.CompareAndSwapInt32", "internal/race.Enable", "internal/race.Acquire", "(*internal/sync.Mutex).lockSlow", "internal/sync.runtime_canSpin", "internal/sync.runtime_doSpin", "internal/sync.throw", "internal/sync.runtime_nanotime", "internal/sync.runtime_SemacquireMutex", "sync/atomic.AddInt32", "(*internal/sync.Mutex).Unlock", "internal/race.ReleaseMerge", "(*internal/sync.Mutex).unlockSlow", "internal/sync.fatal", "internal/sync.runtime_Semrelease", "sync/atomic.StoreUint32", "sync/atomic.AddInt64", "internal/abi.NoEscape", "internal/bytealg.MakeNoZero", "sync/atomic.LoadInt64"], unfollowed := true, recurses := true, named := ["diaeresis/relex.errFull", "diaeresis/relex.errRange", "unicode/utf8.first", "unicode/utf8.acceptRanges", "internal/bytealg.MaxLen"], apart := false, laid := [("unicode/utf8.acceptRanges", laid_unicode_utf8_acceptRanges), ("diaeresis/relex.errRange", laid_diaeresis_relex_errRange), ("diaeresis/relex.errFull", laid_diaeresis_relex_errFull), ("unicode/utf8.first", laid_unicode_utf8_first)], narrowed := true }
def RelexFewUptoSaid : Prop := relexFewUptoRow.holds Tryz.pinned (OpenSpec.upto relexFewSpec)

/-- 'diaeresislaw05.RelexSplices', WHERE WHAT IT READS IS OF BULK AT MOST 1048576: true; the input reads as it did. -/
def relexSplicesUptoRow : OpenClaim := { program := "ytflpihedhccdfaagreatdoor", sum := "f787a03a849db1a4203c524a13613a88146d97dbe04eaa9f393978486aeaa1f6", func := "diaeresis/diaeresislaw05.RelexSplices", spec := "relexSplices", inPlace := ["internal/reflectlite.TypeOf", "internal/bytealg.CountString", "internal/bytealg.IndexByteString", "internal/bytealg.IndexString", "sync/atomic.LoadUint32", "(*internal/sync.Mutex).Lock", "internal/race.Disable", "sync/atomic.CompareAndSwapInt32", "internal/race.Enable", "internal/race.Acquire", "(*internal/sync.Mutex).lockSlow", "internal/sync.runtime_canSpin", "internal/sync.runtime_doSpin", "internal/sync.throw", "internal/sync.runtime_nanotime", "internal/sync.runtime_SemacquireMutex", "sync/atomic.AddInt32", "(*internal/sync.Mutex).Unlock", "internal/race.ReleaseMerge", "(*internal/sync.Mutex).unlockSlow", "internal/sync.fatal", "internal/sync.runtime_Semrelease", "sync/atomic.StoreUint32", "sync/atomic.AddInt64", "internal/abi.NoEscape", "internal/bytealg.MakeNoZero", "sync/atomic.LoadInt64"], unfollowed := true, recurses := true, named := ["diaeresis/relex.errFull", "diaeresis/relex.errRange", "unicode/utf8.first", "unicode/utf8.acceptRanges", "internal/bytealg.MaxLen"], apart := false, laid := [("unicode/utf8.acceptRanges", laid_unicode_utf8_acceptRanges), ("diaeresis/relex.errRange", laid_diaeresis_relex_errRange), ("diaeresis/relex.errFull", laid_diaeresis_relex_errFull), ("unicode/utf8.first", laid_unicode_utf8_first)], narrowed := true }
def RelexSplicesUptoSaid : Prop := relexSplicesUptoRow.holds Tryz.pinned (OpenSpec.upto relexSplicesSpec)

/-- 'diaeresislaw05.RelexWhole', WHERE WHAT IT READS IS OF BULK AT MOST 1048576: true; the input reads as it did. -/
def relexWholeUptoRow : OpenClaim := { program := "ytflpihedhccdfaagreatdoor", sum := "f787a03a849db1a4203c524a13613a88146d97dbe04eaa9f393978486aeaa1f6", func := "diaeresis/diaeresislaw05.RelexWhole", spec := "relexWhole", inPlace := ["internal/reflectlite.TypeOf", "internal/bytealg.CountString", "internal/bytealg.IndexByteString", "internal/bytealg.IndexString", "sync/atomic.LoadUint32", "(*internal/sync.Mutex).Lock", "internal/race.Disable", "sync/atomic.CompareAndSwapInt32", "internal/race.Enable", "internal/race.Acquire", "(*internal/sync.Mutex).lockSlow", "internal/sync.runtime_canSpin", "internal/sync.runtime_doSpin", "internal/sync.throw", "internal/sync.runtime_nanotime", "internal/sync.runtime_SemacquireMutex", "sync/atomic.AddInt32", "(*internal/sync.Mutex).Unlock", "internal/race.ReleaseMerge", "(*internal/sync.Mutex).unlockSlow", "internal/sync.fatal", "internal/sync.runtime_Semrelease", "sync/atomic.StoreUint32", "sync/atomic.AddInt64", "internal/abi.NoEscape", "internal/bytealg.MakeNoZero", "sync/atomic.LoadInt64"], unfollowed := true, recurses := true, named := ["diaeresis/relex.errFull", "diaeresis/relex.errRange", "unicode/utf8.first", "unicode/utf8.acceptRanges", "internal/bytealg.MaxLen"], apart := false, laid := [("unicode/utf8.acceptRanges", laid_unicode_utf8_acceptRanges), ("diaeresis/relex.errRange", laid_diaeresis_relex_errRange), ("diaeresis/relex.errFull", laid_diaeresis_relex_errFull), ("unicode/utf8.first", laid_unicode_utf8_first)], narrowed := true }
def RelexWholeUptoSaid : Prop := relexWholeUptoRow.holds Tryz.pinned (OpenSpec.upto relexWholeSpec)

/-- 'diaeresislaw05.RelexNone', WHERE WHAT IT READS IS OF BULK AT MOST 1048576: true; the input reads as it did. -/
def relexNoneUptoRow : OpenClaim := { program := "ytflpihedhccdfaagreatdoor", sum := "f787a03a849db1a4203c524a13613a88146d97dbe04eaa9f393978486aeaa1f6", func := "diaeresis/diaeresislaw05.RelexNone", spec := "relexNone", inPlace := ["internal/reflectlite.TypeOf", "internal/bytealg.CountString", "internal/bytealg.IndexByteString", "internal/bytealg.IndexString", "sync/atomic.LoadUint32", "(*internal/sync.Mutex).Lock", "internal/race.Disable", "sync/atomic.CompareAndSwapInt32", "internal/race.Enable", "internal/race.Acquire", "(*internal/sync.Mutex).lockSlow", "internal/sync.runtime_canSpin", "internal/sync.runtime_doSpin", "internal/sync.throw", "internal/sync.runtime_nanotime", "internal/sync.runtime_SemacquireMutex", "sync/atomic.AddInt32", "(*internal/sync.Mutex).Unlock", "internal/race.ReleaseMerge", "(*internal/sync.Mutex).unlockSlow", "internal/sync.fatal", "internal/sync.runtime_Semrelease", "sync/atomic.StoreUint32", "sync/atomic.AddInt64", "internal/abi.NoEscape", "internal/bytealg.MakeNoZero", "sync/atomic.LoadInt64"], unfollowed := true, recurses := true, named := ["diaeresis/relex.errFull", "diaeresis/relex.errRange", "unicode/utf8.first", "unicode/utf8.acceptRanges", "internal/bytealg.MaxLen"], apart := false, laid := [("unicode/utf8.acceptRanges", laid_unicode_utf8_acceptRanges), ("diaeresis/relex.errRange", laid_diaeresis_relex_errRange), ("diaeresis/relex.errFull", laid_diaeresis_relex_errFull), ("unicode/utf8.first", laid_unicode_utf8_first)], narrowed := true }
def RelexNoneUptoSaid : Prop := relexNoneUptoRow.holds Tryz.pinned (OpenSpec.upto relexNoneSpec)

/-- 'diaeresislaw05.RelexJoins', WHERE WHAT IT READS IS OF BULK AT MOST 1048576: true; the input reads as it did. -/
def relexJoinsUptoRow : OpenClaim := { program := "ytflpihedhccdfaagreatdoor", sum := "f787a03a849db1a4203c524a13613a88146d97dbe04eaa9f393978486aeaa1f6", func := "diaeresis/diaeresislaw05.RelexJoins", spec := "relexJoins", inPlace := ["internal/reflectlite.TypeOf", "internal/bytealg.CountString", "internal/bytealg.IndexByteString", "internal/bytealg.IndexString", "sync/atomic.LoadUint32", "(*internal/sync.Mutex).Lock", "internal/race.Disable", "sync/atomic.CompareAndSwapInt32", "internal/race.Enable", "internal/race.Acquire", "(*internal/sync.Mutex).lockSlow", "internal/sync.runtime_canSpin", "internal/sync.runtime_doSpin", "internal/sync.throw", "internal/sync.runtime_nanotime", "internal/sync.runtime_SemacquireMutex", "sync/atomic.AddInt32", "(*internal/sync.Mutex).Unlock", "internal/race.ReleaseMerge", "(*internal/sync.Mutex).unlockSlow", "internal/sync.fatal", "internal/sync.runtime_Semrelease", "sync/atomic.StoreUint32", "sync/atomic.AddInt64", "internal/abi.NoEscape", "internal/bytealg.MakeNoZero", "sync/atomic.LoadInt64"], unfollowed := true, recurses := true, named := ["diaeresis/relex.errFull", "diaeresis/relex.errRange", "unicode/utf8.first", "unicode/utf8.acceptRanges", "internal/bytealg.MaxLen"], apart := false, laid := [("unicode/utf8.acceptRanges", laid_unicode_utf8_acceptRanges), ("diaeresis/relex.errRange", laid_diaeresis_relex_errRange), ("diaeresis/relex.errFull", laid_diaeresis_relex_errFull), ("unicode/utf8.first", laid_unicode_utf8_first)], narrowed := true }
def RelexJoinsUptoSaid : Prop := relexJoinsUptoRow.holds Tryz.pinned (OpenSpec.upto relexJoinsSpec)

end Rows
end Go.Proofs.YtflpihedhccdfaaGreatDoor
