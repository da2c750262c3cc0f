/-
  The document's functions of two and of one.
-/
import Derived.Test.YtkghmcfbhojbaaaDoorProg
import Derived.Test.YtkghmcfbhojbaaaDoorReg
import Derived.WalkKit
import Derived.WalkSpells
import Derived.WalkLawsBesides
import Derived.Lib.Hide
import Derived.Lib.MinMax
import Derived.Deep.QuietTactic
import Derived.BigQuiet
import Derived.OwnWalk
import Derived.Deep.AppendLies
import Derived.KernelRfl
import Derived.Test.YtkghmcfbhojbaaaDoorNumW
set_option linter.unusedSimpArgs false
set_option linter.unusedVariables false
namespace Go.Proofs.YtkghmcfbhojbaaaDoor
open Go.RowKit

theorem bool_iff {o b : Bool} (h : o = true ↔ b = true) : o = b := by cases o <;> cases b <;> simp_all
theorem rIsDy_is (g : ByteArray) (b : Bool) (w : World) (e : isDyG g ↔ b = true) :
    Calls Tryd.prog 17 #[.string g] w fun r w' => r = .returned (.bool b) ∧ Below w.heap.size w w' :=
  (rIsDy_any g w).mono fun r w' ⟨⟨o, h1, h2⟩, h3⟩ => ⟨by rw [h1, bool_iff (h2.trans e)], h3⟩
theorem rIsMon_is (g : ByteArray) (b : Bool) (w : World) (e : isMonG g ↔ b = true) :
    Calls Tryd.prog 19 #[.string g] w fun r w' => r = .returned (.bool b) ∧ Below w.heap.size w w' :=
  (rIsMon_any g w).mono fun r w' ⟨⟨o, h1, h2⟩, h3⟩ => ⟨by rw [h1, bool_iff (h2.trans e)], h3⟩

/-- How two numbers lie to 0 and 1, as the text asks. -/
theorem bits_ways (x y : Int) : ¬ 0 ≤ x ∨ (0 ≤ x ∧ ¬ x ≤ 1) ∨ (0 ≤ x ∧ x ≤ 1 ∧ ¬ 0 ≤ y) ∨ (0 ≤ x ∧ x ≤ 1 ∧ 0 ≤ y ∧ ¬ y ≤ 1) ∨ (0 ≤ x ∧ x ≤ 1 ∧ 0 ≤ y ∧ y ≤ 1) := by omega

set_option maxRecDepth 100000 in
set_option maxHeartbeats 4000000 in
theorem rdy_gAdd (x y : Int) (w : World) (hx : fits x = true) (hy : fits y = true) :
    Calls Tryd.prog 12 #[.string gAdd, .int .i64 x, .int .i64 y] w fun r w' => r = .returned (.tuple #[.int .i64 (dyOut gAdd x y).1, .int .i64 (dyOut gAdd x y).2]) ∧ Below w.heap.size w w' := by
  have I := Lib.hid (rIsDy_is gAdd true w (by simp [isDyG, isCmp, isLog]))
  have C := Lib.hid (fun u => radd_any x y u hx hy)
  clear hx hy
  show Calls Tryd.prog _ #[.string ⟨#[43]⟩, .int .i64 x, .int .i64 y] w _
  rcases bits_ways x y with h1 | ⟨h1, h2⟩ | ⟨h1, h2, h3⟩ | ⟨h1, h2, h3, h4⟩ | ⟨h1, h2, h3, h4⟩
  all_goals
      go_enter Tryd.func12, Tryd.ntmps12
      go_wp2_with fail
      refine I.out.mono ?_
      rintro r w1 ⟨rfl, b1⟩
      have B := Lib.hid b1
      clear b1
      go_wp2_with fail
      refine (C.out _).mono ?_
      rintro r w2 ⟨rfl, rfl⟩
      go_wp2_with fail
      go_ret2
      exact ⟨rfl, B.out⟩

set_option maxRecDepth 100000 in
set_option maxHeartbeats 4000000 in
theorem rdy_gTake (x y : Int) (w : World) (hx : fits x = true) (hy : fits y = true) :
    Calls Tryd.prog 12 #[.string gTake, .int .i64 x, .int .i64 y] w fun r w' => r = .returned (.tuple #[.int .i64 (dyOut gTake x y).1, .int .i64 (dyOut gTake x y).2]) ∧ Below w.heap.size w w' := by
  have I := Lib.hid (rIsDy_is gTake true w (by simp [isDyG, isCmp, isLog]))
  have C := Lib.hid (fun u => rtake_any x y u hx hy)
  clear hx hy
  show Calls Tryd.prog _ #[.string ⟨#[45]⟩, .int .i64 x, .int .i64 y] w _
  rcases bits_ways x y with h1 | ⟨h1, h2⟩ | ⟨h1, h2, h3⟩ | ⟨h1, h2, h3, h4⟩ | ⟨h1, h2, h3, h4⟩
  all_goals
      go_enter Tryd.func12, Tryd.ntmps12
      go_wp2_with fail
      refine I.out.mono ?_
      rintro r w1 ⟨rfl, b1⟩
      have B := Lib.hid b1
      clear b1
      go_wp2_with fail
      refine (C.out _).mono ?_
      rintro r w2 ⟨rfl, rfl⟩
      go_wp2_with fail
      go_ret2
      exact ⟨rfl, B.out⟩

set_option maxRecDepth 100000 in
set_option maxHeartbeats 4000000 in
theorem rdy_gTimes (x y : Int) (w : World) (hx : fits x = true) (hy : fits y = true) :
    Calls Tryd.prog 12 #[.string gTimes, .int .i64 x, .int .i64 y] w fun r w' => r = .returned (.tuple #[.int .i64 (dyOut gTimes x y).1, .int .i64 (dyOut gTimes x y).2]) ∧ Below w.heap.size w w' := by
  have I := Lib.hid (rIsDy_is gTimes true w (by simp [isDyG, isCmp, isLog]))
  have C := Lib.hid (fun u => rtimes_any x y u hx hy)
  clear hx hy
  show Calls Tryd.prog _ #[.string ⟨#[195, 151]⟩, .int .i64 x, .int .i64 y] w _
  rcases bits_ways x y with h1 | ⟨h1, h2⟩ | ⟨h1, h2, h3⟩ | ⟨h1, h2, h3, h4⟩ | ⟨h1, h2, h3, h4⟩
  all_goals
      go_enter Tryd.func12, Tryd.ntmps12
      go_wp2_with fail
      refine I.out.mono ?_
      rintro r w1 ⟨rfl, b1⟩
      have B := Lib.hid b1
      clear b1
      go_wp2_with fail
      refine (C.out _).mono ?_
      rintro r w2 ⟨rfl, rfl⟩
      go_wp2_with fail
      go_ret2
      exact ⟨rfl, B.out⟩

set_option maxRecDepth 100000 in
set_option maxHeartbeats 4000000 in
theorem rdy_gDiv (x y : Int) (w : World) (hx : fits x = true) (hy : fits y = true) :
    Calls Tryd.prog 12 #[.string gDiv, .int .i64 x, .int .i64 y] w fun r w' => r = .returned (.tuple #[.int .i64 (dyOut gDiv x y).1, .int .i64 (dyOut gDiv x y).2]) ∧ Below w.heap.size w w' := by
  have I := Lib.hid (rIsDy_is gDiv true w (by simp [isDyG, isCmp, isLog]))
  have C := Lib.hid (fun u => rdivide_any x y u hx hy)
  clear hx hy
  show Calls Tryd.prog _ #[.string ⟨#[195, 183]⟩, .int .i64 x, .int .i64 y] w _
  rcases bits_ways x y with h1 | ⟨h1, h2⟩ | ⟨h1, h2, h3⟩ | ⟨h1, h2, h3, h4⟩ | ⟨h1, h2, h3, h4⟩
  all_goals
      go_enter Tryd.func12, Tryd.ntmps12
      go_wp2_with fail
      refine I.out.mono ?_
      rintro r w1 ⟨rfl, b1⟩
      have B := Lib.hid b1
      clear b1
      go_wp2_with fail
      refine (C.out _).mono ?_
      rintro r w2 ⟨rfl, rfl⟩
      go_wp2_with fail
      go_ret2
      exact ⟨rfl, B.out⟩

set_option maxRecDepth 100000 in
set_option maxHeartbeats 4000000 in
theorem rdy_gRes (x y : Int) (w : World) (hx : fits x = true) (hy : fits y = true) :
    Calls Tryd.prog 12 #[.string gRes, .int .i64 x, .int .i64 y] w fun r w' => r = .returned (.tuple #[.int .i64 (dyOut gRes x y).1, .int .i64 (dyOut gRes x y).2]) ∧ Below w.heap.size w w' := by
  have I := Lib.hid (rIsDy_is gRes true w (by simp [isDyG, isCmp, isLog]))
  have C := Lib.hid (fun u => rresidue_any x y u)
  clear hx hy
  show Calls Tryd.prog _ #[.string ⟨#[124]⟩, .int .i64 x, .int .i64 y] w _
  rcases bits_ways x y with h1 | ⟨h1, h2⟩ | ⟨h1, h2, h3⟩ | ⟨h1, h2, h3, h4⟩ | ⟨h1, h2, h3, h4⟩
  all_goals
      go_enter Tryd.func12, Tryd.ntmps12
      go_wp2_with fail
      refine I.out.mono ?_
      rintro r w1 ⟨rfl, b1⟩
      have B := Lib.hid b1
      clear b1
      go_wp2_with fail
      refine (C.out _).mono ?_
      rintro r w2 ⟨rfl, rfl⟩
      go_wp2_with fail
      go_ret2
      exact ⟨rfl, B.out⟩

set_option maxRecDepth 100000 in
set_option maxHeartbeats 4000000 in
theorem rdy_gHi (x y : Int) (w : World) (hx : fits x = true) (hy : fits y = true) :
    Calls Tryd.prog 12 #[.string gHi, .int .i64 x, .int .i64 y] w fun r w' => r = .returned (.tuple #[.int .i64 (dyOut gHi x y).1, .int .i64 (dyOut gHi x y).2]) ∧ Below w.heap.size w w' := by
  have I := Lib.hid (rIsDy_is gHi true w (by simp [isDyG, isCmp, isLog]))
  clear hx hy
  show Calls Tryd.prog _ #[.string ⟨#[226, 140, 136]⟩, .int .i64 x, .int .i64 y] w _
  rcases bits_ways x y with h1 | ⟨h1, h2⟩ | ⟨h1, h2, h3⟩ | ⟨h1, h2, h3, h4⟩ | ⟨h1, h2, h3, h4⟩
  all_goals
      go_enter Tryd.func12, Tryd.ntmps12
      go_wp2_with fail
      refine I.out.mono ?_
      rintro r w1 ⟨rfl, b1⟩
      have B := Lib.hid b1
      clear b1
      go_wp2_with fail
      go_ret2
      exact ⟨rfl, B.out⟩

set_option maxRecDepth 100000 in
set_option maxHeartbeats 4000000 in
theorem rdy_gLo (x y : Int) (w : World) (hx : fits x = true) (hy : fits y = true) :
    Calls Tryd.prog 12 #[.string gLo, .int .i64 x, .int .i64 y] w fun r w' => r = .returned (.tuple #[.int .i64 (dyOut gLo x y).1, .int .i64 (dyOut gLo x y).2]) ∧ Below w.heap.size w w' := by
  have I := Lib.hid (rIsDy_is gLo true w (by simp [isDyG, isCmp, isLog]))
  clear hx hy
  show Calls Tryd.prog _ #[.string ⟨#[226, 140, 138]⟩, .int .i64 x, .int .i64 y] w _
  rcases bits_ways x y with h1 | ⟨h1, h2⟩ | ⟨h1, h2, h3⟩ | ⟨h1, h2, h3, h4⟩ | ⟨h1, h2, h3, h4⟩
  all_goals
      go_enter Tryd.func12, Tryd.ntmps12
      go_wp2_with fail
      refine I.out.mono ?_
      rintro r w1 ⟨rfl, b1⟩
      have B := Lib.hid b1
      clear b1
      go_wp2_with fail
      go_ret2
      exact ⟨rfl, B.out⟩

set_option maxRecDepth 100000 in
set_option maxHeartbeats 4000000 in
theorem rdy_gEq (x y : Int) (w : World) (hx : fits x = true) (hy : fits y = true) :
    Calls Tryd.prog 12 #[.string gEq, .int .i64 x, .int .i64 y] w fun r w' => r = .returned (.tuple #[.int .i64 (dyOut gEq x y).1, .int .i64 (dyOut gEq x y).2]) ∧ Below w.heap.size w w' := by
  have I := Lib.hid (rIsDy_is gEq true w (by simp [isDyG, isCmp, isLog]))
  have C := Lib.hid (fun u => rcompare_any gEq (by simp [isCmp]) x y u)
  clear hx hy
  show Calls Tryd.prog _ #[.string ⟨#[61]⟩, .int .i64 x, .int .i64 y] w _
  rcases bits_ways x y with h1 | ⟨h1, h2⟩ | ⟨h1, h2, h3⟩ | ⟨h1, h2, h3, h4⟩ | ⟨h1, h2, h3, h4⟩
  all_goals
      go_enter Tryd.func12, Tryd.ntmps12
      go_wp2_with fail
      refine I.out.mono ?_
      rintro r w1 ⟨rfl, b1⟩
      have B := Lib.hid b1
      clear b1
      go_wp2_with fail
      refine (C.out _).mono ?_
      rintro r w2 ⟨rfl, rfl⟩
      go_wp2_with fail
      go_ret2
      exact ⟨rfl, B.out⟩

set_option maxRecDepth 100000 in
set_option maxHeartbeats 4000000 in
theorem rdy_gNe (x y : Int) (w : World) (hx : fits x = true) (hy : fits y = true) :
    Calls Tryd.prog 12 #[.string gNe, .int .i64 x, .int .i64 y] w fun r w' => r = .returned (.tuple #[.int .i64 (dyOut gNe x y).1, .int .i64 (dyOut gNe x y).2]) ∧ Below w.heap.size w w' := by
  have I := Lib.hid (rIsDy_is gNe true w (by simp [isDyG, isCmp, isLog]))
  have C := Lib.hid (fun u => rcompare_any gNe (by simp [isCmp]) x y u)
  clear hx hy
  show Calls Tryd.prog _ #[.string ⟨#[226, 137, 160]⟩, .int .i64 x, .int .i64 y] w _
  rcases bits_ways x y with h1 | ⟨h1, h2⟩ | ⟨h1, h2, h3⟩ | ⟨h1, h2, h3, h4⟩ | ⟨h1, h2, h3, h4⟩
  all_goals
      go_enter Tryd.func12, Tryd.ntmps12
      go_wp2_with fail
      refine I.out.mono ?_
      rintro r w1 ⟨rfl, b1⟩
      have B := Lib.hid b1
      clear b1
      go_wp2_with fail
      refine (C.out _).mono ?_
      rintro r w2 ⟨rfl, rfl⟩
      go_wp2_with fail
      go_ret2
      exact ⟨rfl, B.out⟩

set_option maxRecDepth 100000 in
set_option maxHeartbeats 4000000 in
theorem rdy_gLt (x y : Int) (w : World) (hx : fits x = true) (hy : fits y = true) :
    Calls Tryd.prog 12 #[.string gLt, .int .i64 x, .int .i64 y] w fun r w' => r = .returned (.tuple #[.int .i64 (dyOut gLt x y).1, .int .i64 (dyOut gLt x y).2]) ∧ Below w.heap.size w w' := by
  have I := Lib.hid (rIsDy_is gLt true w (by simp [isDyG, isCmp, isLog]))
  have C := Lib.hid (fun u => rcompare_any gLt (by simp [isCmp]) x y u)
  clear hx hy
  show Calls Tryd.prog _ #[.string ⟨#[60]⟩, .int .i64 x, .int .i64 y] w _
  rcases bits_ways x y with h1 | ⟨h1, h2⟩ | ⟨h1, h2, h3⟩ | ⟨h1, h2, h3, h4⟩ | ⟨h1, h2, h3, h4⟩
  all_goals
      go_enter Tryd.func12, Tryd.ntmps12
      go_wp2_with fail
      refine I.out.mono ?_
      rintro r w1 ⟨rfl, b1⟩
      have B := Lib.hid b1
      clear b1
      go_wp2_with fail
      refine (C.out _).mono ?_
      rintro r w2 ⟨rfl, rfl⟩
      go_wp2_with fail
      go_ret2
      exact ⟨rfl, B.out⟩

set_option maxRecDepth 100000 in
set_option maxHeartbeats 4000000 in
theorem rdy_gGt (x y : Int) (w : World) (hx : fits x = true) (hy : fits y = true) :
    Calls Tryd.prog 12 #[.string gGt, .int .i64 x, .int .i64 y] w fun r w' => r = .returned (.tuple #[.int .i64 (dyOut gGt x y).1, .int .i64 (dyOut gGt x y).2]) ∧ Below w.heap.size w w' := by
  have I := Lib.hid (rIsDy_is gGt true w (by simp [isDyG, isCmp, isLog]))
  have C := Lib.hid (fun u => rcompare_any gGt (by simp [isCmp]) x y u)
  clear hx hy
  show Calls Tryd.prog _ #[.string ⟨#[62]⟩, .int .i64 x, .int .i64 y] w _
  rcases bits_ways x y with h1 | ⟨h1, h2⟩ | ⟨h1, h2, h3⟩ | ⟨h1, h2, h3, h4⟩ | ⟨h1, h2, h3, h4⟩
  all_goals
      go_enter Tryd.func12, Tryd.ntmps12
      go_wp2_with fail
      refine I.out.mono ?_
      rintro r w1 ⟨rfl, b1⟩
      have B := Lib.hid b1
      clear b1
      go_wp2_with fail
      refine (C.out _).mono ?_
      rintro r w2 ⟨rfl, rfl⟩
      go_wp2_with fail
      go_ret2
      exact ⟨rfl, B.out⟩

set_option maxRecDepth 100000 in
set_option maxHeartbeats 4000000 in
theorem rdy_gLe (x y : Int) (w : World) (hx : fits x = true) (hy : fits y = true) :
    Calls Tryd.prog 12 #[.string gLe, .int .i64 x, .int .i64 y] w fun r w' => r = .returned (.tuple #[.int .i64 (dyOut gLe x y).1, .int .i64 (dyOut gLe x y).2]) ∧ Below w.heap.size w w' := by
  have I := Lib.hid (rIsDy_is gLe true w (by simp [isDyG, isCmp, isLog]))
  have C := Lib.hid (fun u => rcompare_any gLe (by simp [isCmp]) x y u)
  clear hx hy
  show Calls Tryd.prog _ #[.string ⟨#[226, 137, 164]⟩, .int .i64 x, .int .i64 y] w _
  rcases bits_ways x y with h1 | ⟨h1, h2⟩ | ⟨h1, h2, h3⟩ | ⟨h1, h2, h3, h4⟩ | ⟨h1, h2, h3, h4⟩
  all_goals
      go_enter Tryd.func12, Tryd.ntmps12
      go_wp2_with fail
      refine I.out.mono ?_
      rintro r w1 ⟨rfl, b1⟩
      have B := Lib.hid b1
      clear b1
      go_wp2_with fail
      refine (C.out _).mono ?_
      rintro r w2 ⟨rfl, rfl⟩
      go_wp2_with fail
      go_ret2
      exact ⟨rfl, B.out⟩

set_option maxRecDepth 100000 in
set_option maxHeartbeats 4000000 in
theorem rdy_gGe (x y : Int) (w : World) (hx : fits x = true) (hy : fits y = true) :
    Calls Tryd.prog 12 #[.string gGe, .int .i64 x, .int .i64 y] w fun r w' => r = .returned (.tuple #[.int .i64 (dyOut gGe x y).1, .int .i64 (dyOut gGe x y).2]) ∧ Below w.heap.size w w' := by
  have I := Lib.hid (rIsDy_is gGe true w (by simp [isDyG, isCmp, isLog]))
  have C := Lib.hid (fun u => rcompare_any gGe (by simp [isCmp]) x y u)
  clear hx hy
  show Calls Tryd.prog _ #[.string ⟨#[226, 137, 165]⟩, .int .i64 x, .int .i64 y] w _
  rcases bits_ways x y with h1 | ⟨h1, h2⟩ | ⟨h1, h2, h3⟩ | ⟨h1, h2, h3, h4⟩ | ⟨h1, h2, h3, h4⟩
  all_goals
      go_enter Tryd.func12, Tryd.ntmps12
      go_wp2_with fail
      refine I.out.mono ?_
      rintro r w1 ⟨rfl, b1⟩
      have B := Lib.hid b1
      clear b1
      go_wp2_with fail
      refine (C.out _).mono ?_
      rintro r w2 ⟨rfl, rfl⟩
      go_wp2_with fail
      go_ret2
      exact ⟨rfl, B.out⟩

set_option maxRecDepth 100000 in
set_option maxHeartbeats 4000000 in
theorem rdy_gAnd (x y : Int) (w : World) (hx : fits x = true) (hy : fits y = true) :
    Calls Tryd.prog 12 #[.string gAnd, .int .i64 x, .int .i64 y] w fun r w' => r = .returned (.tuple #[.int .i64 (dyOut gAnd x y).1, .int .i64 (dyOut gAnd x y).2]) ∧ Below w.heap.size w w' := by
  have I := Lib.hid (rIsDy_is gAnd true w (by simp [isDyG, isCmp, isLog]))
  have L : Hid (dyOut gAnd x y = logOut gAnd x y) := Lib.hid rfl
  have K : Hid (∀ b, (bits01 x y = true ↔ b = true) → bits01 x y = b) := Lib.hid (fun b h => by cases b <;> cases hb : bits01 x y <;> simp_all)
  have T : Hid (bits01 x y = true ↔ (0 ≤ x ∧ x ≤ 1) ∧ 0 ≤ y ∧ y ≤ 1) := Lib.hid (by simp only [bits01, Bool.and_eq_true, decide_eq_true_eq]; omega)
  clear hx hy
  show Calls Tryd.prog _ #[.string ⟨#[226, 136, 167]⟩, .int .i64 x, .int .i64 y] w _
  rcases bits_ways x y with h1 | ⟨h1, h2⟩ | ⟨h1, h2, h3⟩ | ⟨h1, h2, h3, h4⟩ | ⟨h1, h2, h3, h4⟩
  all_goals
      try first
        | have d0 : decide (0 ≤ x) = true := decide_eq_true (by omega)
        | have d0 : decide (0 ≤ x) = false := decide_eq_false (by omega)
      try first
        | have d1 : decide (x ≤ 1) = true := decide_eq_true (by omega)
        | have d1 : decide (x ≤ 1) = false := decide_eq_false (by omega)
      try first
        | have d2 : decide (0 ≤ y) = true := decide_eq_true (by omega)
        | have d2 : decide (0 ≤ y) = false := decide_eq_false (by omega)
      try first
        | have d3 : decide (y ≤ 1) = true := decide_eq_true (by omega)
        | have d3 : decide (y ≤ 1) = false := decide_eq_false (by omega)
      go_enter Tryd.func12, Tryd.ntmps12
      go_wp2_with fail
      refine I.out.mono ?_
      rintro r w1 ⟨rfl, b1⟩
      have B := Lib.hid b1
      clear b1
      go_wp2_with fail
      go_ret2
      refine ⟨?_, B.out⟩
      rw [L.out]
      unfold logOut
      first
        | (have h : bits01 x y = true := T.out.2 (by omega)
           rw [h])
        | (have h : bits01 x y = false := by
             have t := T.out
             cases hb : bits01 x y with
             | false => rfl
             | true => exfalso; have := t.1 hb; omega
           rw [h])
      rfl

set_option maxRecDepth 100000 in
set_option maxHeartbeats 4000000 in
theorem rdy_gOr (x y : Int) (w : World) (hx : fits x = true) (hy : fits y = true) :
    Calls Tryd.prog 12 #[.string gOr, .int .i64 x, .int .i64 y] w fun r w' => r = .returned (.tuple #[.int .i64 (dyOut gOr x y).1, .int .i64 (dyOut gOr x y).2]) ∧ Below w.heap.size w w' := by
  have I := Lib.hid (rIsDy_is gOr true w (by simp [isDyG, isCmp, isLog]))
  have L : Hid (dyOut gOr x y = logOut gOr x y) := Lib.hid rfl
  have K : Hid (∀ b, (bits01 x y = true ↔ b = true) → bits01 x y = b) := Lib.hid (fun b h => by cases b <;> cases hb : bits01 x y <;> simp_all)
  have T : Hid (bits01 x y = true ↔ (0 ≤ x ∧ x ≤ 1) ∧ 0 ≤ y ∧ y ≤ 1) := Lib.hid (by simp only [bits01, Bool.and_eq_true, decide_eq_true_eq]; omega)
  clear hx hy
  show Calls Tryd.prog _ #[.string ⟨#[226, 136, 168]⟩, .int .i64 x, .int .i64 y] w _
  rcases bits_ways x y with h1 | ⟨h1, h2⟩ | ⟨h1, h2, h3⟩ | ⟨h1, h2, h3, h4⟩ | ⟨h1, h2, h3, h4⟩
  all_goals
      try first
        | have d0 : decide (0 ≤ x) = true := decide_eq_true (by omega)
        | have d0 : decide (0 ≤ x) = false := decide_eq_false (by omega)
      try first
        | have d1 : decide (x ≤ 1) = true := decide_eq_true (by omega)
        | have d1 : decide (x ≤ 1) = false := decide_eq_false (by omega)
      try first
        | have d2 : decide (0 ≤ y) = true := decide_eq_true (by omega)
        | have d2 : decide (0 ≤ y) = false := decide_eq_false (by omega)
      try first
        | have d3 : decide (y ≤ 1) = true := decide_eq_true (by omega)
        | have d3 : decide (y ≤ 1) = false := decide_eq_false (by omega)
      go_enter Tryd.func12, Tryd.ntmps12
      go_wp2_with fail
      refine I.out.mono ?_
      rintro r w1 ⟨rfl, b1⟩
      have B := Lib.hid b1
      clear b1
      go_wp2_with fail
      go_ret2
      refine ⟨?_, B.out⟩
      rw [L.out]
      unfold logOut
      first
        | (have h : bits01 x y = true := T.out.2 (by omega)
           rw [h])
        | (have h : bits01 x y = false := by
             have t := T.out
             cases hb : bits01 x y with
             | false => rfl
             | true => exfalso; have := t.1 hb; omega
           rw [h])
      rfl

set_option maxRecDepth 100000 in
set_option maxHeartbeats 4000000 in
theorem rdy_none (g : ByteArray) (hg : ¬ isDyG g) (x y : Int) (w : World) :
    Calls Tryd.prog 12 #[.string g, .int .i64 x, .int .i64 y] w fun r w' => r = .returned (.tuple #[.int .i64 (dyOut g x y).1, .int .i64 (dyOut g x y).2]) ∧ Below w.heap.size w w' := by
  have I := Lib.hid (rIsDy_is g false w (by simp [hg]))
  rw [dyOut_none hg]
  clear hg
  go_enter Tryd.func12, Tryd.ntmps12
  go_wp2_with fail
  refine I.out.mono ?_
  rintro r w1 ⟨rfl, b1⟩
  have B := Lib.hid b1
  clear b1
  go_wp2_with fail
  go_ret2
  exact ⟨rfl, B.out⟩

theorem rdy_any (g : ByteArray) (x y : Int) (w : World) (hx : fits x = true) (hy : fits y = true) :
    Calls Tryd.prog 12 #[.string g, .int .i64 x, .int .i64 y] w fun r w' => r = .returned (.tuple #[.int .i64 (dyOut g x y).1, .int .i64 (dyOut g x y).2]) ∧ Below w.heap.size w w' := by
  by_cases hg : isDyG g
  · rcases hg with rfl | rfl | rfl | rfl | rfl | rfl | rfl | (rfl | rfl | rfl | rfl | rfl | rfl) | (rfl | rfl)
    · exact rdy_gAdd x y w hx hy
    · exact rdy_gTake x y w hx hy
    · exact rdy_gTimes x y w hx hy
    · exact rdy_gDiv x y w hx hy
    · exact rdy_gRes x y w hx hy
    · exact rdy_gHi x y w hx hy
    · exact rdy_gLo x y w hx hy
    · exact rdy_gEq x y w hx hy
    · exact rdy_gNe x y w hx hy
    · exact rdy_gLt x y w hx hy
    · exact rdy_gGt x y w hx hy
    · exact rdy_gLe x y w hx hy
    · exact rdy_gGe x y w hx hy
    · exact rdy_gAnd x y w hx hy
    · exact rdy_gOr x y w hx hy
  · exact rdy_none g hg x y w
end Go.Proofs.YtkghmcfbhojbaaaDoor
