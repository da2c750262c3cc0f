/-
  Show and Deep, of any nodes: by the program and by the reference.
-/
import Derived.Test.YtbcgdkhkljeomaaDoorProg
import Derived.Test.YtbcgdkhkljeomaaDoorReg
import Derived.WalkKit
import Derived.WalkSpells
import Derived.WalkLawsBesides
import Derived.Lib.Hide
import Derived.Lib.MinMax
import Derived.Deep.QuietTactic
import Derived.BigQuiet
import Derived.OwnWalk
import Derived.Deep.AppendLies
import Derived.KernelRfl
import Derived.Test.YtbcgdkhkljeomaaDoorNdO
set_option linter.unusedSimpArgs false
set_option linter.unusedVariables false
namespace Go.Proofs.YtbcgdkhkljeomaaDoor
open Go.RowKit Go.Shelf

theorem showN_yes {t : List Nd} (h : rightN t = true) : showN t = strB (showAt t (t.length - 1)) := by unfold showN; rw [h]; rfl
theorem showN_no {t : List Nd} (h : rightN t = false) : showN t = ByteArray.empty := by unfold showN; rw [h]; rfl
theorem deepN_yes {t : List Nd} (h : rightN t = true) : deepN t = deepAt t (t.length - 1) := by unfold deepN; rw [h]; rfl
theorem deepN_no {t : List Nd} (h : rightN t = false) : deepN t = 0 := by unfold deepN; rw [h]; rfl

set_option maxRecDepth 100000 in
set_option maxHeartbeats 4000000 in
theorem showAll_any (t : List Nd) (A : Option Addr) (c : Nat) (w : World) (hh : HoldsN w A t) (hi : IntN t) :
    Calls Tryd.prog 22 #[.slice A t.length c] w fun e w' => e = .returned (.string (showN t)) ∧ Below w.heap.size w w' := by
  have HR := Lib.hid (right_any t A c w hh hi)
  cases hr : rightN t with
  | false =>
    rw [hr] at HR
    have HD := Lib.hid (showN_no hr)
    clear hr hh hi
    go_enter Tryd.func22, Tryd.ntmps22
    go_wp2_with fail
    refine HR.out.mono ?_
    rintro e w0 ⟨rfl, hb⟩
    go_wp2_with fail
    go_ret
    rw [HD.out]
    exact ⟨rfl, hb⟩
  | true =>
    have r1 := (rightN_parts hr).1
    have r2 := (rightN_parts hr).2.1
    have HS := Lib.hid (fun W T hT hH => show_any t hr hi t.length (t.length - 1) (by omega) (by omega) T A c W hT hH)
    rw [show (((t.length - 1 : Nat) : Nat) : Int) = (t.length : Int) - 1 by omega] at HS
    rw [hr] at HR
    have HD := Lib.hid (showN_yes hr)
    have HH := Lib.hid hh
    clear hr hh hi
    have hw4 : IntKind.i64.wrap ((t.length : Int) - 1) = (t.length : Int) - 1 := IntWalk.i64_in _ (by omega)
    go_enter Tryd.func22, Tryd.ntmps22
    go_wp2_with fail
    refine HR.out.mono ?_
    rintro e w0 ⟨rfl, hb⟩
    have hb1 : Below w.heap.size w (w0.alloc (.cells #[.slice A t.length c] 46)) := hb.alloc hb.size _
    have HX := Lib.hid (HS.out (w0.alloc (.cells #[.slice A t.length c] 46)) w0.heap.size (heap_alloc_new _ _) (HH.out.below hb1))
    go_wp2_with fail
    refine HX.out.mono ?_
    rintro e w2 ⟨rfl, hb2⟩
    go_wp2_with fail
    go_ret
    rw [HD.out]
    exact ⟨rfl, hb1.trans (hb2.mono hb1.size)⟩

set_option maxRecDepth 100000 in
set_option maxHeartbeats 4000000 in
theorem refShowAll_any (t : List Nd) (A : Option Addr) (c : Nat) (w : World) (hh : HoldsN w A t) (hi : IntN t) :
    Calls Tryd.prog 25 #[.slice A t.length c] w fun e w' => e = .returned (.string (showN t)) ∧ Below w.heap.size w w' := by
  have HR := Lib.hid (refRight_any t A c w hh hi)
  cases hr : rightN t with
  | false =>
    rw [hr] at HR
    have HD := Lib.hid (showN_no hr)
    clear hr hh hi
    go_enter Tryd.func25, Tryd.ntmps25
    go_wp2_with fail
    refine HR.out.mono ?_
    rintro e w0 ⟨rfl, hb⟩
    go_wp2_with fail
    go_ret
    rw [HD.out]
    exact ⟨rfl, hb⟩
  | true =>
    have r1 := (rightN_parts hr).1
    have r2 := (rightN_parts hr).2.1
    have HS := Lib.hid (fun W hH => refShow_any t hr hi t.length (t.length - 1) (by omega) (by omega) A c W hH)
    rw [show (((t.length - 1 : Nat) : Nat) : Int) = (t.length : Int) - 1 by omega] at HS
    rw [hr] at HR
    have HD := Lib.hid (showN_yes hr)
    have HH := Lib.hid hh
    clear hr hh hi
    have hw4 : IntKind.i64.wrap ((t.length : Int) - 1) = (t.length : Int) - 1 := IntWalk.i64_in _ (by omega)
    go_enter Tryd.func25, Tryd.ntmps25
    go_wp2_with fail
    refine HR.out.mono ?_
    rintro e w0 ⟨rfl, hb⟩
    have HX := Lib.hid (HS.out w0 (HH.out.below hb))
    go_wp2_with fail
    refine HX.out.mono ?_
    rintro e w2 ⟨rfl, hb2⟩
    go_wp2_with fail
    go_ret
    rw [HD.out]
    exact ⟨rfl, hb.trans (hb2.mono hb.size)⟩

set_option maxRecDepth 100000 in
set_option maxHeartbeats 4000000 in
theorem refDeepAll_any (t : List Nd) (A : Option Addr) (c : Nat) (w : World) (hh : HoldsN w A t) (hi : IntN t) :
    Calls Tryd.prog 26 #[.slice A t.length c] w fun e w' => e = .returned (.int .i64 (deepN t)) ∧ Below w.heap.size w w' := by
  have HR := Lib.hid (refRight_any t A c w hh hi)
  cases hr : rightN t with
  | false =>
    rw [hr] at HR
    have HD := Lib.hid (deepN_no hr)
    clear hr hh hi
    go_enter Tryd.func26, Tryd.ntmps26
    go_wp2_with fail
    refine HR.out.mono ?_
    rintro e w0 ⟨rfl, hb⟩
    go_wp2_with fail
    go_ret
    rw [HD.out]
    exact ⟨rfl, hb⟩
  | true =>
    have r1 := (rightN_parts hr).1
    have r2 := (rightN_parts hr).2.1
    have HS := Lib.hid (fun W hH => refDeep_any t (rightN_parts hr).2.2.1 hi (by omega) t.length (t.length - 1) (by omega) (by omega) A c W hH)
    rw [show (((t.length - 1 : Nat) : Nat) : Int) = (t.length : Int) - 1 by omega] at HS
    rw [hr] at HR
    have HD := Lib.hid (deepN_yes hr)
    have HH := Lib.hid hh
    clear hr hh hi
    have hw4 : IntKind.i64.wrap ((t.length : Int) - 1) = (t.length : Int) - 1 := IntWalk.i64_in _ (by omega)
    go_enter Tryd.func26, Tryd.ntmps26
    go_wp2_with fail
    refine HR.out.mono ?_
    rintro e w0 ⟨rfl, hb⟩
    have HX := Lib.hid (HS.out w0 (HH.out.below hb))
    go_wp2_with fail
    refine HX.out.mono ?_
    rintro e w2 ⟨rfl, rfl⟩
    go_wp2_with fail
    go_ret
    rw [HD.out]
    exact ⟨rfl, hb⟩
end Go.Proofs.YtbcgdkhkljeomaaDoor
