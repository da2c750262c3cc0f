/-
  The document's functions of one.
-/
import Derived.Test.YtkghmcfbhojbaaaDoorProg
import Derived.Test.YtkghmcfbhojbaaaDoorReg
import Derived.WalkKit
import Derived.WalkSpells
import Derived.WalkLawsBesides
import Derived.Lib.Hide
import Derived.Lib.MinMax
import Derived.Deep.QuietTactic
import Derived.BigQuiet
import Derived.OwnWalk
import Derived.Deep.AppendLies
import Derived.KernelRfl
import Derived.Test.YtkghmcfbhojbaaaDoorNumX
set_option linter.unusedSimpArgs false
set_option linter.unusedVariables false
namespace Go.Proofs.YtkghmcfbhojbaaaDoor
open Go.RowKit

set_option maxRecDepth 100000 in
set_option maxHeartbeats 4000000 in
theorem rmon_gAdd (y : Int) (w : World) (hy : fits y = true) :
    Calls Tryd.prog 13 #[.string gAdd, .int .i64 y] w fun r w' => r = .returned (.tuple #[.int .i64 (monOut gAdd y).1, .int .i64 (monOut gAdd y).2]) ∧ Below w.heap.size w w' := by
  have I := Lib.hid (rIsMon_is gAdd true w (by simp [isMonG]))
  clear hy
  show Calls Tryd.prog _ #[.string ⟨#[43]⟩, .int .i64 y] w _
  go_enter Tryd.func13, Tryd.ntmps13
  go_wp2_with fail
  refine I.out.mono ?_
  rintro r w1 ⟨rfl, b1⟩
  have B := Lib.hid b1
  clear b1
  go_wp2_with fail
  go_ret2
  exact ⟨rfl, B.out⟩

set_option maxRecDepth 100000 in
set_option maxHeartbeats 4000000 in
theorem rmon_gHi (y : Int) (w : World) (hy : fits y = true) :
    Calls Tryd.prog 13 #[.string gHi, .int .i64 y] w fun r w' => r = .returned (.tuple #[.int .i64 (monOut gHi y).1, .int .i64 (monOut gHi y).2]) ∧ Below w.heap.size w w' := by
  have I := Lib.hid (rIsMon_is gHi true w (by simp [isMonG]))
  clear hy
  show Calls Tryd.prog _ #[.string ⟨#[226, 140, 136]⟩, .int .i64 y] w _
  go_enter Tryd.func13, Tryd.ntmps13
  go_wp2_with fail
  refine I.out.mono ?_
  rintro r w1 ⟨rfl, b1⟩
  have B := Lib.hid b1
  clear b1
  go_wp2_with fail
  go_ret2
  exact ⟨rfl, B.out⟩

set_option maxRecDepth 100000 in
set_option maxHeartbeats 4000000 in
theorem rmon_gLo (y : Int) (w : World) (hy : fits y = true) :
    Calls Tryd.prog 13 #[.string gLo, .int .i64 y] w fun r w' => r = .returned (.tuple #[.int .i64 (monOut gLo y).1, .int .i64 (monOut gLo y).2]) ∧ Below w.heap.size w w' := by
  have I := Lib.hid (rIsMon_is gLo true w (by simp [isMonG]))
  clear hy
  show Calls Tryd.prog _ #[.string ⟨#[226, 140, 138]⟩, .int .i64 y] w _
  go_enter Tryd.func13, Tryd.ntmps13
  go_wp2_with fail
  refine I.out.mono ?_
  rintro r w1 ⟨rfl, b1⟩
  have B := Lib.hid b1
  clear b1
  go_wp2_with fail
  go_ret2
  exact ⟨rfl, B.out⟩

set_option maxRecDepth 100000 in
set_option maxHeartbeats 4000000 in
theorem rmon_gTake (y : Int) (w : World) (hy : fits y = true) :
    Calls Tryd.prog 13 #[.string gTake, .int .i64 y] w fun r w' => r = .returned (.tuple #[.int .i64 (monOut gTake y).1, .int .i64 (monOut gTake y).2]) ∧ Below w.heap.size w w' := by
  have I := Lib.hid (rIsMon_is gTake true w (by simp [isMonG]))
  have C := Lib.hid (fun u => rtake_any 0 y u (by decide) hy)
  rw [Int.zero_sub] at C
  clear hy
  show Calls Tryd.prog _ #[.string ⟨#[45]⟩, .int .i64 y] w _
  go_enter Tryd.func13, Tryd.ntmps13
  go_wp2_with fail
  refine I.out.mono ?_
  rintro r w1 ⟨rfl, b1⟩
  have B := Lib.hid b1
  clear b1
  go_wp2_with fail
  refine (C.out _).mono ?_
  rintro r w2 ⟨rfl, rfl⟩
  go_wp2_with fail
  go_ret2
  exact ⟨rfl, B.out⟩

set_option maxRecDepth 100000 in
set_option maxHeartbeats 4000000 in
theorem rmon_gTimes (y : Int) (w : World) (hy : fits y = true) :
    Calls Tryd.prog 13 #[.string gTimes, .int .i64 y] w fun r w' => r = .returned (.tuple #[.int .i64 (monOut gTimes y).1, .int .i64 (monOut gTimes y).2]) ∧ Below w.heap.size w w' := by
  have I := Lib.hid (rIsMon_is gTimes true w (by simp [isMonG]))
  clear hy
  have e : monOut gTimes y = (bit (decide (0 < y)) - bit (decide (y < 0)), 0) := rfl
  have hw : ∀ p q : Bool, IntKind.i64.wrap (bit p - bit q) = bit p - bit q := fun p q => by cases p <;> cases q <;> decide
  rw [e]
  clear e
  obtain ⟨p, hp⟩ : ∃ p, decide (0 < y) = p := ⟨_, rfl⟩
  obtain ⟨q, hq⟩ : ∃ q, decide (y < 0) = q := ⟨_, rfl⟩
  rw [hp, hq]
  have D := Lib.hid rbit_any
  have E := Lib.hid (hw p q)
  clear hw
  cases p <;> cases q
  all_goals
    show Calls Tryd.prog _ #[.string ⟨#[195, 151]⟩, .int .i64 y] w _
    go_enter Tryd.func13, Tryd.ntmps13
    go_wp2_with fail
    refine I.out.mono ?_
    rintro r w1 ⟨rfl, b1⟩
    have B := Lib.hid b1
    clear b1
    go_wp2_with fail
    refine (D.out _ _).mono ?_
    rintro r w2 ⟨rfl, rfl⟩
    go_wp2_with fail
    refine (D.out _ _).mono ?_
    rintro r w2 ⟨rfl, rfl⟩
    go_wp2_with fail
    go_ret2
    exact ⟨by first | rfl | (simp [bit, wrap64]; done), B.out⟩

set_option maxRecDepth 100000 in
set_option maxHeartbeats 4000000 in
theorem rmon_gDiv (y : Int) (w : World) (hy : fits y = true) :
    Calls Tryd.prog 13 #[.string gDiv, .int .i64 y] w fun r w' => r = .returned (.tuple #[.int .i64 (monOut gDiv y).1, .int .i64 (monOut gDiv y).2]) ∧ Below w.heap.size w w' := by
  have I := Lib.hid (rIsMon_is gDiv true w (by simp [isMonG]))
  have C := Lib.hid (fun u => rdivide_any 1 y u (by decide) hy)
  clear hy
  show Calls Tryd.prog _ #[.string ⟨#[195, 183]⟩, .int .i64 y] w _
  go_enter Tryd.func13, Tryd.ntmps13
  go_wp2_with fail
  refine I.out.mono ?_
  rintro r w1 ⟨rfl, b1⟩
  have B := Lib.hid b1
  clear b1
  go_wp2_with fail
  refine (C.out _).mono ?_
  rintro r w2 ⟨rfl, rfl⟩
  go_wp2_with fail
  go_ret2
  exact ⟨rfl, B.out⟩

set_option maxRecDepth 100000 in
set_option maxHeartbeats 4000000 in
theorem rmon_gRes (y : Int) (w : World) (hy : fits y = true) :
    Calls Tryd.prog 13 #[.string gRes, .int .i64 y] w fun r w' => r = .returned (.tuple #[.int .i64 (monOut gRes y).1, .int .i64 (monOut gRes y).2]) ∧ Below w.heap.size w w' := by
  have I := Lib.hid (rIsMon_is gRes true w (by simp [isMonG]))
  have C := Lib.hid (fun u => rtake_any 0 y u (by decide) hy)
  rw [Int.zero_sub] at C
  have e : monOut gRes y = if y < 0 then orOver (-y) else (y, 0) := rfl
  clear hy
  by_cases h : y < 0
  · rw [e, if_pos h]
    clear e
    show Calls Tryd.prog _ #[.string ⟨#[124]⟩, .int .i64 y] w _
    go_enter Tryd.func13, Tryd.ntmps13
    go_wp2_with fail
    refine I.out.mono ?_
    rintro r w1 ⟨rfl, b1⟩
    have B := Lib.hid b1
    clear b1
    go_wp2_with fail
    refine (C.out _).mono ?_
    rintro r w2 ⟨rfl, rfl⟩
    go_wp2_with fail
    go_ret2
    exact ⟨rfl, B.out⟩
  · rw [e, if_neg h]
    clear e
    show Calls Tryd.prog _ #[.string ⟨#[124]⟩, .int .i64 y] w _
    go_enter Tryd.func13, Tryd.ntmps13
    go_wp2_with fail
    refine I.out.mono ?_
    rintro r w1 ⟨rfl, b1⟩
    have B := Lib.hid b1
    clear b1
    go_wp2_with fail
    go_ret2
    exact ⟨rfl, B.out⟩

set_option maxRecDepth 100000 in
set_option maxHeartbeats 4000000 in
theorem rmon_gNot (y : Int) (w : World) (hy : fits y = true) :
    Calls Tryd.prog 13 #[.string gNot, .int .i64 y] w fun r w' => r = .returned (.tuple #[.int .i64 (monOut gNot y).1, .int .i64 (monOut gNot y).2]) ∧ Below w.heap.size w w' := by
  have I := Lib.hid (rIsMon_is gNot true w (by simp [isMonG]))
  have e : monOut gNot y = if y = 0 ∨ y = 1 then (1 - y, 0) else (0, 102) := rfl
  rw [e]
  clear hy e
  by_cases h0 : y = 0
  · subst h0
    show Calls Tryd.prog _ #[.string ⟨#[126]⟩, .int .i64 0] w _
    go_enter Tryd.func13, Tryd.ntmps13
    go_wp2_with fail
    refine I.out.mono ?_
    rintro r w1 ⟨rfl, b1⟩
    have B := Lib.hid b1
    clear b1
    go_wp2_with fail
    go_ret2
    exact ⟨rfl, B.out⟩
  by_cases h1 : y = 1
  · subst h1
    show Calls Tryd.prog _ #[.string ⟨#[126]⟩, .int .i64 1] w _
    go_enter Tryd.func13, Tryd.ntmps13
    go_wp2_with fail
    refine I.out.mono ?_
    rintro r w1 ⟨rfl, b1⟩
    have B := Lib.hid b1
    clear b1
    go_wp2_with fail
    go_ret2
    exact ⟨rfl, B.out⟩
  rw [if_neg (by simp [h0, h1])]
  have q0 : (y == 0) = false := by simpa using h0
  have q1 : (y == 1) = false := by simpa using h1
  have q2 : (y != 0) = true := by rw [bne, q0]; rfl
  have q3 : (y != 1) = true := by rw [bne, q1]; rfl
  clear h0 h1
  show Calls Tryd.prog _ #[.string ⟨#[126]⟩, .int .i64 y] w _
  go_enter Tryd.func13, Tryd.ntmps13
  go_wp2_with fail
  refine I.out.mono ?_
  rintro r w1 ⟨rfl, b1⟩
  have B := Lib.hid b1
  clear b1
  go_wp2_with fail
  go_ret2
  exact ⟨rfl, B.out⟩

set_option maxRecDepth 100000 in
set_option maxHeartbeats 4000000 in
theorem rmon_none (g : ByteArray) (hg : ¬ isMonG g) (y : Int) (w : World) :
    Calls Tryd.prog 13 #[.string g, .int .i64 y] w fun r w' => r = .returned (.tuple #[.int .i64 (monOut g y).1, .int .i64 (monOut g y).2]) ∧ Below w.heap.size w w' := by
  have I := Lib.hid (rIsMon_is g false w (by simp [hg]))
  rw [monOut_none hg]
  clear hg
  go_enter Tryd.func13, Tryd.ntmps13
  go_wp2_with fail
  refine I.out.mono ?_
  rintro r w1 ⟨rfl, b1⟩
  have B := Lib.hid b1
  clear b1
  go_wp2_with fail
  go_ret2
  exact ⟨rfl, B.out⟩

theorem rmon_any (g : ByteArray) (y : Int) (w : World) (hy : fits y = true) :
    Calls Tryd.prog 13 #[.string g, .int .i64 y] w fun r w' => r = .returned (.tuple #[.int .i64 (monOut g y).1, .int .i64 (monOut g y).2]) ∧ Below w.heap.size w w' := by
  by_cases hg : isMonG g
  · rcases hg with rfl | rfl | rfl | rfl | rfl | rfl | rfl | rfl
    · exact rmon_gAdd y w hy
    · exact rmon_gTake y w hy
    · exact rmon_gTimes y w hy
    · exact rmon_gDiv y w hy
    · exact rmon_gRes y w hy
    · exact rmon_gHi y w hy
    · exact rmon_gLo y w hy
    · exact rmon_gNot y w hy
  · exact rmon_none g hg y w
end Go.Proofs.YtkghmcfbhojbaaaDoor
