/-
  Comparing, at each of the glyphs.
-/
import Derived.Test.YtkghmcfbhojbaaaDoorProg
import Derived.Test.YtkghmcfbhojbaaaDoorReg
import Derived.WalkKit
import Derived.WalkSpells
import Derived.WalkLawsBesides
import Derived.Lib.Hide
import Derived.Lib.MinMax
import Derived.Deep.QuietTactic
import Derived.BigQuiet
import Derived.OwnWalk
import Derived.Deep.AppendLies
import Derived.KernelRfl
import Derived.Test.YtkghmcfbhojbaaaDoorNumB
set_option linter.unusedSimpArgs false
set_option linter.unusedVariables false
namespace Go.Proofs.YtkghmcfbhojbaaaDoor
open Go.RowKit

def gEq : ByteArray := ⟨#[61]⟩
def gNe : ByteArray := ⟨#[226, 137, 160]⟩
def gLt : ByteArray := ⟨#[60]⟩
def gGt : ByteArray := ⟨#[62]⟩
def gLe : ByteArray := ⟨#[226, 137, 164]⟩
def gGe : ByteArray := ⟨#[226, 137, 165]⟩

theorem or00 : bits BinOp.or IntKind.i64 0 0 = 0 := by kernel_rfl
theorem or01 : bits BinOp.or IntKind.i64 0 1 = 1 := by kernel_rfl
theorem or10 : bits BinOp.or IntKind.i64 1 0 = 1 := by kernel_rfl
theorem or11 : bits BinOp.or IntKind.i64 1 1 = 1 := by kernel_rfl

def bit (b : Bool) : Int := if b then 1 else 0

set_option maxRecDepth 100000 in
set_option maxHeartbeats 4000000 in
theorem compare_ne (x y : Int) (w : World) :
    Calls Tryd.prog 39 #[.agg #[.int .i64 x, .int .i64 y], .string gNe] w fun r w' => r = .returned (.tuple #[.int .i64 (bit (decide (x ≠ y))), .nilIface]) ∧ Below w.heap.size w w' := by
  unfold gNe
  go_enter Tryd.func39, Tryd.ntmps39
  rcases Int.lt_trichotomy x y with h | h | h
  · have q : (x == y) = false := by simp; omega
    have q1 : decide (x < y) = true := by simpa using h
    have q2 : decide (y < x) = false := by simp; omega
    go_wp2_with (go_at_call 47; refine (bit_any _ _).mono ?_; rintro r w' ⟨rfl, rfl⟩)
    go_ret2
    exact ⟨by first | (simp [bit, or00, or01, or10, or11]; done) | (simp [bit, or00, or01, or10, or11]; omega), (Below.refl _ _).alloc (Nat.le_refl _) _⟩
  · subst h
    go_wp2_with (go_at_call 47; refine (bit_any _ _).mono ?_; rintro r w' ⟨rfl, rfl⟩)
    go_ret2
    exact ⟨by simp [bit, or00, or01, or10, or11], (Below.refl _ _).alloc (Nat.le_refl _) _⟩
  · have q : (x == y) = false := by simp; omega
    have q1 : decide (x < y) = false := by simp; omega
    have q2 : decide (y < x) = true := by simpa using h
    go_wp2_with (go_at_call 47; refine (bit_any _ _).mono ?_; rintro r w' ⟨rfl, rfl⟩)
    go_ret2
    exact ⟨by first | (simp [bit, or00, or01, or10, or11]; done) | (simp [bit, or00, or01, or10, or11]; omega), (Below.refl _ _).alloc (Nat.le_refl _) _⟩

set_option maxRecDepth 100000 in
set_option maxHeartbeats 4000000 in
theorem compare_eq (x y : Int) (w : World) :
    Calls Tryd.prog 39 #[.agg #[.int .i64 x, .int .i64 y], .string gEq] w fun r w' => r = .returned (.tuple #[.int .i64 (bit (decide (x = y))), .nilIface]) ∧ Below w.heap.size w w' := by
  unfold gEq
  go_enter Tryd.func39, Tryd.ntmps39
  rcases Int.lt_trichotomy x y with h | h | h
  · have q : (x == y) = false := by simp; omega
    have q1 : decide (x < y) = true := by simpa using h
    have q2 : decide (y < x) = false := by simp; omega
    go_wp2_with (go_at_call 47; refine (bit_any _ _).mono ?_; rintro r w' ⟨rfl, rfl⟩)
    go_ret2
    exact ⟨by first | (simp [bit, or00, or01, or10, or11]; done) | (simp [bit, or00, or01, or10, or11]; omega), (Below.refl _ _).alloc (Nat.le_refl _) _⟩
  · subst h
    go_wp2_with (go_at_call 47; refine (bit_any _ _).mono ?_; rintro r w' ⟨rfl, rfl⟩)
    go_ret2
    exact ⟨by simp [bit, or00, or01, or10, or11], (Below.refl _ _).alloc (Nat.le_refl _) _⟩
  · have q : (x == y) = false := by simp; omega
    have q1 : decide (x < y) = false := by simp; omega
    have q2 : decide (y < x) = true := by simpa using h
    go_wp2_with (go_at_call 47; refine (bit_any _ _).mono ?_; rintro r w' ⟨rfl, rfl⟩)
    go_ret2
    exact ⟨by first | (simp [bit, or00, or01, or10, or11]; done) | (simp [bit, or00, or01, or10, or11]; omega), (Below.refl _ _).alloc (Nat.le_refl _) _⟩

set_option maxRecDepth 100000 in
set_option maxHeartbeats 4000000 in
theorem compare_lt (x y : Int) (w : World) :
    Calls Tryd.prog 39 #[.agg #[.int .i64 x, .int .i64 y], .string gLt] w fun r w' => r = .returned (.tuple #[.int .i64 (bit (decide (x < y))), .nilIface]) ∧ Below w.heap.size w w' := by
  unfold gLt
  go_enter Tryd.func39, Tryd.ntmps39
  rcases Int.lt_trichotomy x y with h | h | h
  · have q : (x == y) = false := by simp; omega
    have q1 : decide (x < y) = true := by simpa using h
    have q2 : decide (y < x) = false := by simp; omega
    go_wp2_with (go_at_call 47; refine (bit_any _ _).mono ?_; rintro r w' ⟨rfl, rfl⟩)
    go_ret2
    exact ⟨by first | (simp [bit, or00, or01, or10, or11]; done) | (simp [bit, or00, or01, or10, or11]; omega), (Below.refl _ _).alloc (Nat.le_refl _) _⟩
  · subst h
    go_wp2_with (go_at_call 47; refine (bit_any _ _).mono ?_; rintro r w' ⟨rfl, rfl⟩)
    go_ret2
    exact ⟨by simp [bit, or00, or01, or10, or11], (Below.refl _ _).alloc (Nat.le_refl _) _⟩
  · have q : (x == y) = false := by simp; omega
    have q1 : decide (x < y) = false := by simp; omega
    have q2 : decide (y < x) = true := by simpa using h
    go_wp2_with (go_at_call 47; refine (bit_any _ _).mono ?_; rintro r w' ⟨rfl, rfl⟩)
    go_ret2
    exact ⟨by first | (simp [bit, or00, or01, or10, or11]; done) | (simp [bit, or00, or01, or10, or11]; omega), (Below.refl _ _).alloc (Nat.le_refl _) _⟩

set_option maxRecDepth 100000 in
set_option maxHeartbeats 4000000 in
theorem compare_gt (x y : Int) (w : World) :
    Calls Tryd.prog 39 #[.agg #[.int .i64 x, .int .i64 y], .string gGt] w fun r w' => r = .returned (.tuple #[.int .i64 (bit (decide (y < x))), .nilIface]) ∧ Below w.heap.size w w' := by
  unfold gGt
  go_enter Tryd.func39, Tryd.ntmps39
  rcases Int.lt_trichotomy x y with h | h | h
  · have q : (x == y) = false := by simp; omega
    have q1 : decide (x < y) = true := by simpa using h
    have q2 : decide (y < x) = false := by simp; omega
    go_wp2_with (go_at_call 47; refine (bit_any _ _).mono ?_; rintro r w' ⟨rfl, rfl⟩)
    go_ret2
    exact ⟨by first | (simp [bit, or00, or01, or10, or11]; done) | (simp [bit, or00, or01, or10, or11]; omega), (Below.refl _ _).alloc (Nat.le_refl _) _⟩
  · subst h
    go_wp2_with (go_at_call 47; refine (bit_any _ _).mono ?_; rintro r w' ⟨rfl, rfl⟩)
    go_ret2
    exact ⟨by simp [bit, or00, or01, or10, or11], (Below.refl _ _).alloc (Nat.le_refl _) _⟩
  · have q : (x == y) = false := by simp; omega
    have q1 : decide (x < y) = false := by simp; omega
    have q2 : decide (y < x) = true := by simpa using h
    go_wp2_with (go_at_call 47; refine (bit_any _ _).mono ?_; rintro r w' ⟨rfl, rfl⟩)
    go_ret2
    exact ⟨by first | (simp [bit, or00, or01, or10, or11]; done) | (simp [bit, or00, or01, or10, or11]; omega), (Below.refl _ _).alloc (Nat.le_refl _) _⟩

set_option maxRecDepth 100000 in
set_option maxHeartbeats 4000000 in
theorem compare_le (x y : Int) (w : World) :
    Calls Tryd.prog 39 #[.agg #[.int .i64 x, .int .i64 y], .string gLe] w fun r w' => r = .returned (.tuple #[.int .i64 (bit (decide (x ≤ y))), .nilIface]) ∧ Below w.heap.size w w' := by
  unfold gLe
  go_enter Tryd.func39, Tryd.ntmps39
  rcases Int.lt_trichotomy x y with h | h | h
  · have q : (x == y) = false := by simp; omega
    have q1 : decide (x < y) = true := by simpa using h
    have q2 : decide (y < x) = false := by simp; omega
    go_wp2_with (go_at_call 47; refine (bit_any _ _).mono ?_; rintro r w' ⟨rfl, rfl⟩)
    go_ret2
    exact ⟨by first | (simp [bit, or00, or01, or10, or11]; done) | (simp [bit, or00, or01, or10, or11]; omega), (Below.refl _ _).alloc (Nat.le_refl _) _⟩
  · subst h
    go_wp2_with (go_at_call 47; refine (bit_any _ _).mono ?_; rintro r w' ⟨rfl, rfl⟩)
    go_ret2
    exact ⟨by simp [bit, or00, or01, or10, or11], (Below.refl _ _).alloc (Nat.le_refl _) _⟩
  · have q : (x == y) = false := by simp; omega
    have q1 : decide (x < y) = false := by simp; omega
    have q2 : decide (y < x) = true := by simpa using h
    go_wp2_with (go_at_call 47; refine (bit_any _ _).mono ?_; rintro r w' ⟨rfl, rfl⟩)
    go_ret2
    exact ⟨by first | (simp [bit, or00, or01, or10, or11]; done) | (simp [bit, or00, or01, or10, or11]; omega), (Below.refl _ _).alloc (Nat.le_refl _) _⟩

set_option maxRecDepth 100000 in
set_option maxHeartbeats 4000000 in
theorem compare_ge (x y : Int) (w : World) :
    Calls Tryd.prog 39 #[.agg #[.int .i64 x, .int .i64 y], .string gGe] w fun r w' => r = .returned (.tuple #[.int .i64 (bit (decide (y ≤ x))), .nilIface]) ∧ Below w.heap.size w w' := by
  unfold gGe
  go_enter Tryd.func39, Tryd.ntmps39
  rcases Int.lt_trichotomy x y with h | h | h
  · have q : (x == y) = false := by simp; omega
    have q1 : decide (x < y) = true := by simpa using h
    have q2 : decide (y < x) = false := by simp; omega
    go_wp2_with (go_at_call 47; refine (bit_any _ _).mono ?_; rintro r w' ⟨rfl, rfl⟩)
    go_ret2
    exact ⟨by first | (simp [bit, or00, or01, or10, or11]; done) | (simp [bit, or00, or01, or10, or11]; omega), (Below.refl _ _).alloc (Nat.le_refl _) _⟩
  · subst h
    go_wp2_with (go_at_call 47; refine (bit_any _ _).mono ?_; rintro r w' ⟨rfl, rfl⟩)
    go_ret2
    exact ⟨by simp [bit, or00, or01, or10, or11], (Below.refl _ _).alloc (Nat.le_refl _) _⟩
  · have q : (x == y) = false := by simp; omega
    have q1 : decide (x < y) = false := by simp; omega
    have q2 : decide (y < x) = true := by simpa using h
    go_wp2_with (go_at_call 47; refine (bit_any _ _).mono ?_; rintro r w' ⟨rfl, rfl⟩)
    go_ret2
    exact ⟨by first | (simp [bit, or00, or01, or10, or11]; done) | (simp [bit, or00, or01, or10, or11]; omega), (Below.refl _ _).alloc (Nat.le_refl _) _⟩
end Go.Proofs.YtkghmcfbhojbaaaDoor
