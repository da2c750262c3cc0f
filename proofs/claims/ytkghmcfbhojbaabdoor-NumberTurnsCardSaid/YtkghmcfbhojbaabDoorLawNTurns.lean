/-
  The statement NumberTurns.
-/
import Derived.Test.YtkghmcfbhojbaabDoorProg
import Derived.Test.YtkghmcfbhojbaabDoorReg
import Derived.WalkKit
import Derived.WalkSpells
import Derived.WalkLawsBesides
import Derived.Lib.Hide
import Derived.Lib.MinMax
import Derived.Deep.QuietTactic
import Derived.BigQuiet
import Derived.OwnWalk
import Derived.Deep.AppendLies
import Derived.KernelRfl
import Derived.Test.YtkghmcfbhojbaabDoorNumT
set_option linter.unusedSimpArgs false
set_option linter.unusedVariables false
namespace Go.Proofs.YtkghmcfbhojbaabDoor
open Go.RowKit

theorem turns_gAdd (x y : Int) : dyOut gAdd y x = dyOut gAdd x y := by
  show orOver (y + x) = orOver (x + y)
  rw [Int.add_comm]
theorem turns_gTimes (x y : Int) : dyOut gTimes y x = dyOut gTimes x y := by
  show orOver (y * x) = orOver (x * y)
  rw [Int.mul_comm]
theorem turns_gHi (x y : Int) : dyOut gHi y x = dyOut gHi x y := by
  show ((max y x, 0) : Int × Int) = (max x y, 0)
  rw [Int.max_comm]
theorem turns_gLo (x y : Int) : dyOut gLo y x = dyOut gLo x y := by
  show ((min y x, 0) : Int × Int) = (min x y, 0)
  rw [Int.min_comm]
theorem bits_comm (x y : Int) : bits01 y x = bits01 x y := by
  unfold bits01
  rw [Bool.and_comm]
theorem turns_gAnd (x y : Int) : dyOut gAnd y x = dyOut gAnd x y := by
  show logOut gAnd y x = logOut gAnd x y
  unfold logOut
  rw [bits_comm, Int.min_comm, Int.max_comm]
theorem turns_gOr (x y : Int) : dyOut gOr y x = dyOut gOr x y := by
  show logOut gOr y x = logOut gOr x y
  unfold logOut
  rw [bits_comm, Int.min_comm, Int.max_comm]
theorem turns_gEq (x y : Int) : dyOut gEq y x = dyOut gEq x y := by
  show ((bit (decide (y = x)), 0) : Int × Int) = (bit (decide (x = y)), 0)
  simp only [eq_comm]
theorem turns_gNe (x y : Int) : dyOut gNe y x = dyOut gNe x y := by
  show ((bit (decide (y ≠ x)), 0) : Int × Int) = (bit (decide (x ≠ y)), 0)
  simp only [ne_comm]

theorem unit_gAdd (y : Int) (hy : fits y = true) : dyOut gAdd 0 y = (y, 0) := by
  show orOver (0 + y) = (y, 0)
  rw [Int.zero_add]
  simp [orOver, hy]
theorem unit_gTimes (y : Int) (hy : fits y = true) : dyOut gTimes 1 y = (y, 0) := by
  show orOver (1 * y) = (y, 0)
  rw [Int.one_mul]
  simp [orOver, hy]
theorem unit_gAnd (y : Int) : (dyOut gAnd 1 y = (y, 0)) ∨ (dyOut gAnd 1 y = (0, 102) ∧ y ≠ 0 ∧ y ≠ 1) := by
  by_cases h0 : y = 0
  · subst h0
    exact Or.inl (by decide)
  by_cases h1 : y = 1
  · subst h1
    exact Or.inl (by decide)
  · refine Or.inr ⟨?_, h0, h1⟩
    show logOut gAnd 1 y = _
    simp [logOut, bits01, h0, h1]
theorem unit_gOr (y : Int) : (dyOut gOr 0 y = (y, 0)) ∨ (dyOut gOr 0 y = (0, 102) ∧ y ≠ 0 ∧ y ≠ 1) := by
  by_cases h0 : y = 0
  · subst h0
    exact Or.inl (by decide)
  by_cases h1 : y = 1
  · subst h1
    exact Or.inl (by decide)
  · refine Or.inr ⟨?_, h0, h1⟩
    show logOut gOr 0 y = _
    simp [logOut, bits01, h0, h1]

set_option maxRecDepth 100000 in
set_option maxHeartbeats 8000000 in
theorem numberTurns_0 (x y : Int) (a d : Addr) (w : World) (hx : fits x = true) (hy : fits y = true) (hL : Laid10 a d w) :
    Calls Tryd.prog 3 #[.int .i64 0, .int .i64 x, .int .i64 y] w fun r w' => r = .returned (.bool true) ∧ Below w.heap.size w w' := by
  obtain ⟨⟨n, c⟩, e1⟩ : ∃ p, dyOut gAdd x y = p := ⟨_, rfl⟩
  have e2 : dyOut gAdd y x = (n, c) := (turns_gAdd x y).trans e1
  obtain ⟨⟨m, k⟩, e4⟩ : ∃ p, dyOut gAdd 0 y = p := ⟨_, rfl⟩
  have hk : k = 0 ∧ m = y ∨ k = 102 ∧ y ≠ 0 ∧ y ≠ 1 := by
    rcases (Or.inl (unit_gAdd y hy) : (dyOut gAdd 0 y = (y, 0)) ∨ (dyOut gAdd 0 y = (0, 102) ∧ y ≠ 0 ∧ y ≠ 1)) with h | ⟨h, h0, h1⟩
    · rw [h] at e4
      exact Or.inl ⟨(congrArg Prod.snd e4).symm, (congrArg Prod.fst e4).symm⟩
    · rw [h] at e4
      exact Or.inr ⟨(congrArg Prod.snd e4).symm, h0, h1⟩
  have S0 := Lib.hid (shown_any a d w hL)
  have D1 := Lib.hid (fun u hu => dy_is gAdd (short _ (by decide)) x y n c a d u hx hy hu e1)
  have D2 := Lib.hid (fun u hu => dy_is gAdd (short _ (by decide)) y x n c a d u hy hx hu e2)
  have D3 := Lib.hid (fun (v : World) (hu : Laid10 a d v) => (unit_any gAdd (short _ (by decide)) v).mono fun r w' ⟨h1, h2⟩ => (⟨h1.trans rfl, hu.below h2, h2⟩ : r = Ending.returned (.tuple #[.int .i64 0, .bool true]) ∧ Laid10 a d w' ∧ Below v.heap.size v w'))
  have D4 := Lib.hid (fun u hu => dy_is gAdd (short _ (by decide)) 0 y m k a d u (by decide) hy hu e4)
  have t1 : (n == n) = true := by simp
  have t2 : (c == c) = true := by simp
  have t3 : (y == y) = true := by simp
  clear e1 e2 e4 hx hy hL
  rcases hk with ⟨rfl, rfl⟩ | ⟨rfl, h0, h1⟩
  all_goals
    try have q0 : (y == 0) = false := by simpa using h0
    try have q1 : (y == 1) = false := by simpa using h1
    try have q2 : (y != 0) = true := by rw [bne, q0]; rfl
    try have q3 : (y != 1) = true := by rw [bne, q1]; rfl
    try clear h0 h1
    go_enter Tryd.func3, Tryd.ntmps3
    go_wp2_with fail
    refine S0.out.mono ?_
    rintro r w0 ⟨rfl, g0, b0⟩
    have H0 := Lib.hid g0
    have B0 := Lib.hid b0
    clear g0 b0
    go_wp2_with fail
    refine (D1.out _ (H0.out.below ((Below.refl _ _).alloc (Nat.le_refl _) _))).mono ?_
    rintro r w1 ⟨rfl, g1, b1⟩
    have c1 : w1.cell? ⟨w0.heap.size, 0, none⟩ = some (.string ⟨#[43]⟩) := (b1.cell (p := ⟨w0.heap.size, 0, none⟩) (by simp)).trans (by simp)
    have H1 := Lib.hid g1
    have B1 := Lib.hid (B0.out.trans ((((Below.refl w0.heap.size w0).alloc (Nat.le_refl _) _).trans (b1.mono (by simp))).mono B0.out.size))
    clear g1 b1
    go_wp2_with fail
    refine (D2.out _ H1.out).mono ?_
    rintro r w2 ⟨rfl, g2, b2⟩
    have c2 := (b2.cell (cell_lt c1)).trans c1
    have H2 := Lib.hid g2
    have B2 := Lib.hid (B1.out.trans (b2.mono B1.out.size))
    clear g2 b2 c1
    go_wp2_with fail
    refine (D3.out _ H2.out).mono ?_
    rintro r w3 ⟨rfl, g3, b3⟩
    have c3 := (b3.cell (cell_lt c2)).trans c2
    have H3 := Lib.hid g3
    have B3 := Lib.hid (B2.out.trans (b3.mono B2.out.size))
    clear g3 b3 c2
    go_wp2_with fail
    refine (D4.out _ H3.out).mono ?_
    rintro r w4 ⟨rfl, g4, b4⟩
    have B4 := Lib.hid (B3.out.trans (b4.mono B3.out.size))
    clear g4 b4
    go_wp2_with fail
    all_goals go_ret
    all_goals exact ⟨rfl, B4.out⟩

set_option maxRecDepth 100000 in
set_option maxHeartbeats 8000000 in
theorem numberTurns_1 (x y : Int) (a d : Addr) (w : World) (hx : fits x = true) (hy : fits y = true) (hL : Laid10 a d w) :
    Calls Tryd.prog 3 #[.int .i64 1, .int .i64 x, .int .i64 y] w fun r w' => r = .returned (.bool true) ∧ Below w.heap.size w w' := by
  obtain ⟨⟨n, c⟩, e1⟩ : ∃ p, dyOut gTimes x y = p := ⟨_, rfl⟩
  have e2 : dyOut gTimes y x = (n, c) := (turns_gTimes x y).trans e1
  obtain ⟨⟨m, k⟩, e4⟩ : ∃ p, dyOut gTimes 1 y = p := ⟨_, rfl⟩
  have hk : k = 0 ∧ m = y ∨ k = 102 ∧ y ≠ 0 ∧ y ≠ 1 := by
    rcases (Or.inl (unit_gTimes y hy) : (dyOut gTimes 1 y = (y, 0)) ∨ (dyOut gTimes 1 y = (0, 102) ∧ y ≠ 0 ∧ y ≠ 1)) with h | ⟨h, h0, h1⟩
    · rw [h] at e4
      exact Or.inl ⟨(congrArg Prod.snd e4).symm, (congrArg Prod.fst e4).symm⟩
    · rw [h] at e4
      exact Or.inr ⟨(congrArg Prod.snd e4).symm, h0, h1⟩
  have S0 := Lib.hid (shown_any a d w hL)
  have D1 := Lib.hid (fun u hu => dy_is gTimes (short _ (by decide)) x y n c a d u hx hy hu e1)
  have D2 := Lib.hid (fun u hu => dy_is gTimes (short _ (by decide)) y x n c a d u hy hx hu e2)
  have D3 := Lib.hid (fun (v : World) (hu : Laid10 a d v) => (unit_any gTimes (short _ (by decide)) v).mono fun r w' ⟨h1, h2⟩ => (⟨h1.trans rfl, hu.below h2, h2⟩ : r = Ending.returned (.tuple #[.int .i64 1, .bool true]) ∧ Laid10 a d w' ∧ Below v.heap.size v w'))
  have D4 := Lib.hid (fun u hu => dy_is gTimes (short _ (by decide)) 1 y m k a d u (by decide) hy hu e4)
  have t1 : (n == n) = true := by simp
  have t2 : (c == c) = true := by simp
  have t3 : (y == y) = true := by simp
  clear e1 e2 e4 hx hy hL
  rcases hk with ⟨rfl, rfl⟩ | ⟨rfl, h0, h1⟩
  all_goals
    try have q0 : (y == 0) = false := by simpa using h0
    try have q1 : (y == 1) = false := by simpa using h1
    try have q2 : (y != 0) = true := by rw [bne, q0]; rfl
    try have q3 : (y != 1) = true := by rw [bne, q1]; rfl
    try clear h0 h1
    go_enter Tryd.func3, Tryd.ntmps3
    go_wp2_with fail
    refine S0.out.mono ?_
    rintro r w0 ⟨rfl, g0, b0⟩
    have H0 := Lib.hid g0
    have B0 := Lib.hid b0
    clear g0 b0
    go_wp2_with fail
    refine (D1.out _ (H0.out.below ((Below.refl _ _).alloc (Nat.le_refl _) _))).mono ?_
    rintro r w1 ⟨rfl, g1, b1⟩
    have c1 : w1.cell? ⟨w0.heap.size, 1, none⟩ = some (.string ⟨#[195, 151]⟩) := (b1.cell (p := ⟨w0.heap.size, 1, none⟩) (by simp)).trans (by simp)
    have H1 := Lib.hid g1
    have B1 := Lib.hid (B0.out.trans ((((Below.refl w0.heap.size w0).alloc (Nat.le_refl _) _).trans (b1.mono (by simp))).mono B0.out.size))
    clear g1 b1
    go_wp2_with fail
    refine (D2.out _ H1.out).mono ?_
    rintro r w2 ⟨rfl, g2, b2⟩
    have c2 := (b2.cell (cell_lt c1)).trans c1
    have H2 := Lib.hid g2
    have B2 := Lib.hid (B1.out.trans (b2.mono B1.out.size))
    clear g2 b2 c1
    go_wp2_with fail
    refine (D3.out _ H2.out).mono ?_
    rintro r w3 ⟨rfl, g3, b3⟩
    have c3 := (b3.cell (cell_lt c2)).trans c2
    have H3 := Lib.hid g3
    have B3 := Lib.hid (B2.out.trans (b3.mono B2.out.size))
    clear g3 b3 c2
    go_wp2_with fail
    refine (D4.out _ H3.out).mono ?_
    rintro r w4 ⟨rfl, g4, b4⟩
    have B4 := Lib.hid (B3.out.trans (b4.mono B3.out.size))
    clear g4 b4
    go_wp2_with fail
    all_goals go_ret
    all_goals exact ⟨rfl, B4.out⟩

set_option maxRecDepth 100000 in
set_option maxHeartbeats 8000000 in
theorem numberTurns_2 (x y : Int) (a d : Addr) (w : World) (hx : fits x = true) (hy : fits y = true) (hL : Laid10 a d w) :
    Calls Tryd.prog 3 #[.int .i64 2, .int .i64 x, .int .i64 y] w fun r w' => r = .returned (.bool true) ∧ Below w.heap.size w w' := by
  obtain ⟨⟨n, c⟩, e1⟩ : ∃ p, dyOut gHi x y = p := ⟨_, rfl⟩
  have e2 : dyOut gHi y x = (n, c) := (turns_gHi x y).trans e1
  obtain ⟨⟨m, k⟩, e4⟩ : ∃ p, dyOut gHi 0 y = p := ⟨_, rfl⟩
  have S0 := Lib.hid (shown_any a d w hL)
  have D1 := Lib.hid (fun u hu => dy_is gHi (short _ (by decide)) x y n c a d u hx hy hu e1)
  have D2 := Lib.hid (fun u hu => dy_is gHi (short _ (by decide)) y x n c a d u hy hx hu e2)
  have D3 := Lib.hid (fun (v : World) (hu : Laid10 a d v) => (unit_any gHi (short _ (by decide)) v).mono fun r w' ⟨h1, h2⟩ => (⟨h1.trans rfl, hu.below h2, h2⟩ : r = Ending.returned (.tuple #[.int .i64 0, .bool false]) ∧ Laid10 a d w' ∧ Below v.heap.size v w'))
  have D4 := Lib.hid (fun u hu => dy_is gHi (short _ (by decide)) 0 y m k a d u (by decide) hy hu e4)
  have t1 : (n == n) = true := by simp
  have t2 : (c == c) = true := by simp
  have t3 : (y == y) = true := by simp
  clear e1 e2 e4 hx hy hL
  go_enter Tryd.func3, Tryd.ntmps3
  go_wp2_with fail
  refine S0.out.mono ?_
  rintro r w0 ⟨rfl, g0, b0⟩
  have H0 := Lib.hid g0
  have B0 := Lib.hid b0
  clear g0 b0
  go_wp2_with fail
  refine (D1.out _ (H0.out.below ((Below.refl _ _).alloc (Nat.le_refl _) _))).mono ?_
  rintro r w1 ⟨rfl, g1, b1⟩
  have c1 : w1.cell? ⟨w0.heap.size, 2, none⟩ = some (.string ⟨#[226, 140, 136]⟩) := (b1.cell (p := ⟨w0.heap.size, 2, none⟩) (by simp)).trans (by simp)
  have H1 := Lib.hid g1
  have B1 := Lib.hid (B0.out.trans ((((Below.refl w0.heap.size w0).alloc (Nat.le_refl _) _).trans (b1.mono (by simp))).mono B0.out.size))
  clear g1 b1
  go_wp2_with fail
  refine (D2.out _ H1.out).mono ?_
  rintro r w2 ⟨rfl, g2, b2⟩
  have c2 := (b2.cell (cell_lt c1)).trans c1
  have H2 := Lib.hid g2
  have B2 := Lib.hid (B1.out.trans (b2.mono B1.out.size))
  clear g2 b2 c1
  go_wp2_with fail
  refine (D3.out _ H2.out).mono ?_
  rintro r w3 ⟨rfl, g3, b3⟩
  have c3 := (b3.cell (cell_lt c2)).trans c2
  have H3 := Lib.hid g3
  have B3 := Lib.hid (B2.out.trans (b3.mono B2.out.size))
  clear g3 b3 c2
  go_wp2_with fail
  refine (D4.out _ H3.out).mono ?_
  rintro r w4 ⟨rfl, g4, b4⟩
  have B4 := Lib.hid (B3.out.trans (b4.mono B3.out.size))
  clear g4 b4
  go_wp2_with fail
  all_goals go_ret
  all_goals exact ⟨rfl, B4.out⟩

set_option maxRecDepth 100000 in
set_option maxHeartbeats 8000000 in
theorem numberTurns_3 (x y : Int) (a d : Addr) (w : World) (hx : fits x = true) (hy : fits y = true) (hL : Laid10 a d w) :
    Calls Tryd.prog 3 #[.int .i64 3, .int .i64 x, .int .i64 y] w fun r w' => r = .returned (.bool true) ∧ Below w.heap.size w w' := by
  obtain ⟨⟨n, c⟩, e1⟩ : ∃ p, dyOut gLo x y = p := ⟨_, rfl⟩
  have e2 : dyOut gLo y x = (n, c) := (turns_gLo x y).trans e1
  obtain ⟨⟨m, k⟩, e4⟩ : ∃ p, dyOut gLo 0 y = p := ⟨_, rfl⟩
  have S0 := Lib.hid (shown_any a d w hL)
  have D1 := Lib.hid (fun u hu => dy_is gLo (short _ (by decide)) x y n c a d u hx hy hu e1)
  have D2 := Lib.hid (fun u hu => dy_is gLo (short _ (by decide)) y x n c a d u hy hx hu e2)
  have D3 := Lib.hid (fun (v : World) (hu : Laid10 a d v) => (unit_any gLo (short _ (by decide)) v).mono fun r w' ⟨h1, h2⟩ => (⟨h1.trans rfl, hu.below h2, h2⟩ : r = Ending.returned (.tuple #[.int .i64 0, .bool false]) ∧ Laid10 a d w' ∧ Below v.heap.size v w'))
  have D4 := Lib.hid (fun u hu => dy_is gLo (short _ (by decide)) 0 y m k a d u (by decide) hy hu e4)
  have t1 : (n == n) = true := by simp
  have t2 : (c == c) = true := by simp
  have t3 : (y == y) = true := by simp
  clear e1 e2 e4 hx hy hL
  go_enter Tryd.func3, Tryd.ntmps3
  go_wp2_with fail
  refine S0.out.mono ?_
  rintro r w0 ⟨rfl, g0, b0⟩
  have H0 := Lib.hid g0
  have B0 := Lib.hid b0
  clear g0 b0
  go_wp2_with fail
  refine (D1.out _ (H0.out.below ((Below.refl _ _).alloc (Nat.le_refl _) _))).mono ?_
  rintro r w1 ⟨rfl, g1, b1⟩
  have c1 : w1.cell? ⟨w0.heap.size, 3, none⟩ = some (.string ⟨#[226, 140, 138]⟩) := (b1.cell (p := ⟨w0.heap.size, 3, none⟩) (by simp)).trans (by simp)
  have H1 := Lib.hid g1
  have B1 := Lib.hid (B0.out.trans ((((Below.refl w0.heap.size w0).alloc (Nat.le_refl _) _).trans (b1.mono (by simp))).mono B0.out.size))
  clear g1 b1
  go_wp2_with fail
  refine (D2.out _ H1.out).mono ?_
  rintro r w2 ⟨rfl, g2, b2⟩
  have c2 := (b2.cell (cell_lt c1)).trans c1
  have H2 := Lib.hid g2
  have B2 := Lib.hid (B1.out.trans (b2.mono B1.out.size))
  clear g2 b2 c1
  go_wp2_with fail
  refine (D3.out _ H2.out).mono ?_
  rintro r w3 ⟨rfl, g3, b3⟩
  have c3 := (b3.cell (cell_lt c2)).trans c2
  have H3 := Lib.hid g3
  have B3 := Lib.hid (B2.out.trans (b3.mono B2.out.size))
  clear g3 b3 c2
  go_wp2_with fail
  refine (D4.out _ H3.out).mono ?_
  rintro r w4 ⟨rfl, g4, b4⟩
  have B4 := Lib.hid (B3.out.trans (b4.mono B3.out.size))
  clear g4 b4
  go_wp2_with fail
  all_goals go_ret
  all_goals exact ⟨rfl, B4.out⟩

set_option maxRecDepth 100000 in
set_option maxHeartbeats 8000000 in
theorem numberTurns_4 (x y : Int) (a d : Addr) (w : World) (hx : fits x = true) (hy : fits y = true) (hL : Laid10 a d w) :
    Calls Tryd.prog 3 #[.int .i64 4, .int .i64 x, .int .i64 y] w fun r w' => r = .returned (.bool true) ∧ Below w.heap.size w w' := by
  obtain ⟨⟨n, c⟩, e1⟩ : ∃ p, dyOut gAnd x y = p := ⟨_, rfl⟩
  have e2 : dyOut gAnd y x = (n, c) := (turns_gAnd x y).trans e1
  obtain ⟨⟨m, k⟩, e4⟩ : ∃ p, dyOut gAnd 1 y = p := ⟨_, rfl⟩
  have hk : k = 0 ∧ m = y ∨ k = 102 ∧ y ≠ 0 ∧ y ≠ 1 := by
    rcases unit_gAnd y with h | ⟨h, h0, h1⟩
    · rw [h] at e4
      exact Or.inl ⟨(congrArg Prod.snd e4).symm, (congrArg Prod.fst e4).symm⟩
    · rw [h] at e4
      exact Or.inr ⟨(congrArg Prod.snd e4).symm, h0, h1⟩
  have S0 := Lib.hid (shown_any a d w hL)
  have D1 := Lib.hid (fun u hu => dy_is gAnd (short _ (by decide)) x y n c a d u hx hy hu e1)
  have D2 := Lib.hid (fun u hu => dy_is gAnd (short _ (by decide)) y x n c a d u hy hx hu e2)
  have D3 := Lib.hid (fun (v : World) (hu : Laid10 a d v) => (unit_any gAnd (short _ (by decide)) v).mono fun r w' ⟨h1, h2⟩ => (⟨h1.trans rfl, hu.below h2, h2⟩ : r = Ending.returned (.tuple #[.int .i64 1, .bool true]) ∧ Laid10 a d w' ∧ Below v.heap.size v w'))
  have D4 := Lib.hid (fun u hu => dy_is gAnd (short _ (by decide)) 1 y m k a d u (by decide) hy hu e4)
  have t1 : (n == n) = true := by simp
  have t2 : (c == c) = true := by simp
  have t3 : (y == y) = true := by simp
  clear e1 e2 e4 hx hy hL
  rcases hk with ⟨rfl, rfl⟩ | ⟨rfl, h0, h1⟩
  all_goals
    try have q0 : (y == 0) = false := by simpa using h0
    try have q1 : (y == 1) = false := by simpa using h1
    try have q2 : (y != 0) = true := by rw [bne, q0]; rfl
    try have q3 : (y != 1) = true := by rw [bne, q1]; rfl
    try clear h0 h1
    go_enter Tryd.func3, Tryd.ntmps3
    go_wp2_with fail
    refine S0.out.mono ?_
    rintro r w0 ⟨rfl, g0, b0⟩
    have H0 := Lib.hid g0
    have B0 := Lib.hid b0
    clear g0 b0
    go_wp2_with fail
    refine (D1.out _ (H0.out.below ((Below.refl _ _).alloc (Nat.le_refl _) _))).mono ?_
    rintro r w1 ⟨rfl, g1, b1⟩
    have c1 : w1.cell? ⟨w0.heap.size, 4, none⟩ = some (.string ⟨#[226, 136, 167]⟩) := (b1.cell (p := ⟨w0.heap.size, 4, none⟩) (by simp)).trans (by simp)
    have H1 := Lib.hid g1
    have B1 := Lib.hid (B0.out.trans ((((Below.refl w0.heap.size w0).alloc (Nat.le_refl _) _).trans (b1.mono (by simp))).mono B0.out.size))
    clear g1 b1
    go_wp2_with fail
    refine (D2.out _ H1.out).mono ?_
    rintro r w2 ⟨rfl, g2, b2⟩
    have c2 := (b2.cell (cell_lt c1)).trans c1
    have H2 := Lib.hid g2
    have B2 := Lib.hid (B1.out.trans (b2.mono B1.out.size))
    clear g2 b2 c1
    go_wp2_with fail
    refine (D3.out _ H2.out).mono ?_
    rintro r w3 ⟨rfl, g3, b3⟩
    have c3 := (b3.cell (cell_lt c2)).trans c2
    have H3 := Lib.hid g3
    have B3 := Lib.hid (B2.out.trans (b3.mono B2.out.size))
    clear g3 b3 c2
    go_wp2_with fail
    refine (D4.out _ H3.out).mono ?_
    rintro r w4 ⟨rfl, g4, b4⟩
    have B4 := Lib.hid (B3.out.trans (b4.mono B3.out.size))
    clear g4 b4
    go_wp2_with fail
    all_goals go_ret
    all_goals exact ⟨rfl, B4.out⟩

set_option maxRecDepth 100000 in
set_option maxHeartbeats 8000000 in
theorem numberTurns_5 (x y : Int) (a d : Addr) (w : World) (hx : fits x = true) (hy : fits y = true) (hL : Laid10 a d w) :
    Calls Tryd.prog 3 #[.int .i64 5, .int .i64 x, .int .i64 y] w fun r w' => r = .returned (.bool true) ∧ Below w.heap.size w w' := by
  obtain ⟨⟨n, c⟩, e1⟩ : ∃ p, dyOut gOr x y = p := ⟨_, rfl⟩
  have e2 : dyOut gOr y x = (n, c) := (turns_gOr x y).trans e1
  obtain ⟨⟨m, k⟩, e4⟩ : ∃ p, dyOut gOr 0 y = p := ⟨_, rfl⟩
  have hk : k = 0 ∧ m = y ∨ k = 102 ∧ y ≠ 0 ∧ y ≠ 1 := by
    rcases unit_gOr y with h | ⟨h, h0, h1⟩
    · rw [h] at e4
      exact Or.inl ⟨(congrArg Prod.snd e4).symm, (congrArg Prod.fst e4).symm⟩
    · rw [h] at e4
      exact Or.inr ⟨(congrArg Prod.snd e4).symm, h0, h1⟩
  have S0 := Lib.hid (shown_any a d w hL)
  have D1 := Lib.hid (fun u hu => dy_is gOr (short _ (by decide)) x y n c a d u hx hy hu e1)
  have D2 := Lib.hid (fun u hu => dy_is gOr (short _ (by decide)) y x n c a d u hy hx hu e2)
  have D3 := Lib.hid (fun (v : World) (hu : Laid10 a d v) => (unit_any gOr (short _ (by decide)) v).mono fun r w' ⟨h1, h2⟩ => (⟨h1.trans rfl, hu.below h2, h2⟩ : r = Ending.returned (.tuple #[.int .i64 0, .bool true]) ∧ Laid10 a d w' ∧ Below v.heap.size v w'))
  have D4 := Lib.hid (fun u hu => dy_is gOr (short _ (by decide)) 0 y m k a d u (by decide) hy hu e4)
  have t1 : (n == n) = true := by simp
  have t2 : (c == c) = true := by simp
  have t3 : (y == y) = true := by simp
  clear e1 e2 e4 hx hy hL
  rcases hk with ⟨rfl, rfl⟩ | ⟨rfl, h0, h1⟩
  all_goals
    try have q0 : (y == 0) = false := by simpa using h0
    try have q1 : (y == 1) = false := by simpa using h1
    try have q2 : (y != 0) = true := by rw [bne, q0]; rfl
    try have q3 : (y != 1) = true := by rw [bne, q1]; rfl
    try clear h0 h1
    go_enter Tryd.func3, Tryd.ntmps3
    go_wp2_with fail
    refine S0.out.mono ?_
    rintro r w0 ⟨rfl, g0, b0⟩
    have H0 := Lib.hid g0
    have B0 := Lib.hid b0
    clear g0 b0
    go_wp2_with fail
    refine (D1.out _ (H0.out.below ((Below.refl _ _).alloc (Nat.le_refl _) _))).mono ?_
    rintro r w1 ⟨rfl, g1, b1⟩
    have c1 : w1.cell? ⟨w0.heap.size, 5, none⟩ = some (.string ⟨#[226, 136, 168]⟩) := (b1.cell (p := ⟨w0.heap.size, 5, none⟩) (by simp)).trans (by simp)
    have H1 := Lib.hid g1
    have B1 := Lib.hid (B0.out.trans ((((Below.refl w0.heap.size w0).alloc (Nat.le_refl _) _).trans (b1.mono (by simp))).mono B0.out.size))
    clear g1 b1
    go_wp2_with fail
    refine (D2.out _ H1.out).mono ?_
    rintro r w2 ⟨rfl, g2, b2⟩
    have c2 := (b2.cell (cell_lt c1)).trans c1
    have H2 := Lib.hid g2
    have B2 := Lib.hid (B1.out.trans (b2.mono B1.out.size))
    clear g2 b2 c1
    go_wp2_with fail
    refine (D3.out _ H2.out).mono ?_
    rintro r w3 ⟨rfl, g3, b3⟩
    have c3 := (b3.cell (cell_lt c2)).trans c2
    have H3 := Lib.hid g3
    have B3 := Lib.hid (B2.out.trans (b3.mono B2.out.size))
    clear g3 b3 c2
    go_wp2_with fail
    refine (D4.out _ H3.out).mono ?_
    rintro r w4 ⟨rfl, g4, b4⟩
    have B4 := Lib.hid (B3.out.trans (b4.mono B3.out.size))
    clear g4 b4
    go_wp2_with fail
    all_goals go_ret
    all_goals exact ⟨rfl, B4.out⟩

set_option maxRecDepth 100000 in
set_option maxHeartbeats 8000000 in
theorem numberTurns_6 (x y : Int) (a d : Addr) (w : World) (hx : fits x = true) (hy : fits y = true) (hL : Laid10 a d w) :
    Calls Tryd.prog 3 #[.int .i64 6, .int .i64 x, .int .i64 y] w fun r w' => r = .returned (.bool true) ∧ Below w.heap.size w w' := by
  obtain ⟨⟨n, c⟩, e1⟩ : ∃ p, dyOut gEq x y = p := ⟨_, rfl⟩
  have e2 : dyOut gEq y x = (n, c) := (turns_gEq x y).trans e1
  obtain ⟨⟨m, k⟩, e4⟩ : ∃ p, dyOut gEq 0 y = p := ⟨_, rfl⟩
  have S0 := Lib.hid (shown_any a d w hL)
  have D1 := Lib.hid (fun u hu => dy_is gEq (short _ (by decide)) x y n c a d u hx hy hu e1)
  have D2 := Lib.hid (fun u hu => dy_is gEq (short _ (by decide)) y x n c a d u hy hx hu e2)
  have D3 := Lib.hid (fun (v : World) (hu : Laid10 a d v) => (unit_any gEq (short _ (by decide)) v).mono fun r w' ⟨h1, h2⟩ => (⟨h1.trans rfl, hu.below h2, h2⟩ : r = Ending.returned (.tuple #[.int .i64 0, .bool false]) ∧ Laid10 a d w' ∧ Below v.heap.size v w'))
  have D4 := Lib.hid (fun u hu => dy_is gEq (short _ (by decide)) 0 y m k a d u (by decide) hy hu e4)
  have t1 : (n == n) = true := by simp
  have t2 : (c == c) = true := by simp
  have t3 : (y == y) = true := by simp
  clear e1 e2 e4 hx hy hL
  go_enter Tryd.func3, Tryd.ntmps3
  go_wp2_with fail
  refine S0.out.mono ?_
  rintro r w0 ⟨rfl, g0, b0⟩
  have H0 := Lib.hid g0
  have B0 := Lib.hid b0
  clear g0 b0
  go_wp2_with fail
  refine (D1.out _ (H0.out.below ((Below.refl _ _).alloc (Nat.le_refl _) _))).mono ?_
  rintro r w1 ⟨rfl, g1, b1⟩
  have c1 : w1.cell? ⟨w0.heap.size, 6, none⟩ = some (.string ⟨#[61]⟩) := (b1.cell (p := ⟨w0.heap.size, 6, none⟩) (by simp)).trans (by simp)
  have H1 := Lib.hid g1
  have B1 := Lib.hid (B0.out.trans ((((Below.refl w0.heap.size w0).alloc (Nat.le_refl _) _).trans (b1.mono (by simp))).mono B0.out.size))
  clear g1 b1
  go_wp2_with fail
  refine (D2.out _ H1.out).mono ?_
  rintro r w2 ⟨rfl, g2, b2⟩
  have c2 := (b2.cell (cell_lt c1)).trans c1
  have H2 := Lib.hid g2
  have B2 := Lib.hid (B1.out.trans (b2.mono B1.out.size))
  clear g2 b2 c1
  go_wp2_with fail
  refine (D3.out _ H2.out).mono ?_
  rintro r w3 ⟨rfl, g3, b3⟩
  have c3 := (b3.cell (cell_lt c2)).trans c2
  have H3 := Lib.hid g3
  have B3 := Lib.hid (B2.out.trans (b3.mono B2.out.size))
  clear g3 b3 c2
  go_wp2_with fail
  refine (D4.out _ H3.out).mono ?_
  rintro r w4 ⟨rfl, g4, b4⟩
  have B4 := Lib.hid (B3.out.trans (b4.mono B3.out.size))
  clear g4 b4
  go_wp2_with fail
  all_goals go_ret
  all_goals exact ⟨rfl, B4.out⟩

set_option maxRecDepth 100000 in
set_option maxHeartbeats 8000000 in
theorem numberTurns_7 (x y : Int) (a d : Addr) (w : World) (hx : fits x = true) (hy : fits y = true) (hL : Laid10 a d w) :
    Calls Tryd.prog 3 #[.int .i64 7, .int .i64 x, .int .i64 y] w fun r w' => r = .returned (.bool true) ∧ Below w.heap.size w w' := by
  obtain ⟨⟨n, c⟩, e1⟩ : ∃ p, dyOut gNe x y = p := ⟨_, rfl⟩
  have e2 : dyOut gNe y x = (n, c) := (turns_gNe x y).trans e1
  obtain ⟨⟨m, k⟩, e4⟩ : ∃ p, dyOut gNe 0 y = p := ⟨_, rfl⟩
  have S0 := Lib.hid (shown_any a d w hL)
  have D1 := Lib.hid (fun u hu => dy_is gNe (short _ (by decide)) x y n c a d u hx hy hu e1)
  have D2 := Lib.hid (fun u hu => dy_is gNe (short _ (by decide)) y x n c a d u hy hx hu e2)
  have D3 := Lib.hid (fun (v : World) (hu : Laid10 a d v) => (unit_any gNe (short _ (by decide)) v).mono fun r w' ⟨h1, h2⟩ => (⟨h1.trans rfl, hu.below h2, h2⟩ : r = Ending.returned (.tuple #[.int .i64 0, .bool false]) ∧ Laid10 a d w' ∧ Below v.heap.size v w'))
  have D4 := Lib.hid (fun u hu => dy_is gNe (short _ (by decide)) 0 y m k a d u (by decide) hy hu e4)
  have t1 : (n == n) = true := by simp
  have t2 : (c == c) = true := by simp
  have t3 : (y == y) = true := by simp
  clear e1 e2 e4 hx hy hL
  go_enter Tryd.func3, Tryd.ntmps3
  go_wp2_with fail
  refine S0.out.mono ?_
  rintro r w0 ⟨rfl, g0, b0⟩
  have H0 := Lib.hid g0
  have B0 := Lib.hid b0
  clear g0 b0
  go_wp2_with fail
  refine (D1.out _ (H0.out.below ((Below.refl _ _).alloc (Nat.le_refl _) _))).mono ?_
  rintro r w1 ⟨rfl, g1, b1⟩
  have c1 : w1.cell? ⟨w0.heap.size, 7, none⟩ = some (.string ⟨#[226, 137, 160]⟩) := (b1.cell (p := ⟨w0.heap.size, 7, none⟩) (by simp)).trans (by simp)
  have H1 := Lib.hid g1
  have B1 := Lib.hid (B0.out.trans ((((Below.refl w0.heap.size w0).alloc (Nat.le_refl _) _).trans (b1.mono (by simp))).mono B0.out.size))
  clear g1 b1
  go_wp2_with fail
  refine (D2.out _ H1.out).mono ?_
  rintro r w2 ⟨rfl, g2, b2⟩
  have c2 := (b2.cell (cell_lt c1)).trans c1
  have H2 := Lib.hid g2
  have B2 := Lib.hid (B1.out.trans (b2.mono B1.out.size))
  clear g2 b2 c1
  go_wp2_with fail
  refine (D3.out _ H2.out).mono ?_
  rintro r w3 ⟨rfl, g3, b3⟩
  have c3 := (b3.cell (cell_lt c2)).trans c2
  have H3 := Lib.hid g3
  have B3 := Lib.hid (B2.out.trans (b3.mono B2.out.size))
  clear g3 b3 c2
  go_wp2_with fail
  refine (D4.out _ H3.out).mono ?_
  rintro r w4 ⟨rfl, g4, b4⟩
  have B4 := Lib.hid (B3.out.trans (b4.mono B3.out.size))
  clear g4 b4
  go_wp2_with fail
  all_goals go_ret
  all_goals exact ⟨rfl, B4.out⟩

set_option maxRecDepth 100000 in
set_option maxHeartbeats 8000000 in
theorem numberTurns_out (i x y : Int) (a d : Addr) (w : World) (hi : ¬ (0 ≤ i ∧ i < 8)) (hL : Laid10 a d w) :
    Calls Tryd.prog 3 #[.int .i64 i, .int .i64 x, .int .i64 y] w fun r w' => r = .returned (.bool true) ∧ Below w.heap.size w w' := by
  have S0 := Lib.hid (shown_any a d w hL)
  clear hL
  by_cases h : i < 0
  · clear hi
    go_enter Tryd.func3, Tryd.ntmps3
    go_wp2_with fail
    refine S0.out.mono ?_
    rintro r w0 ⟨rfl, g0, b0⟩
    have B0 := Lib.hid b0
    clear g0 b0
    go_wp2_with fail
    all_goals go_ret
    all_goals exact ⟨rfl, B0.out.alloc B0.out.size _⟩
  · have h8 : 8 ≤ i := by omega
    clear hi
    go_enter Tryd.func3, Tryd.ntmps3
    go_wp2_with fail
    refine S0.out.mono ?_
    rintro r w0 ⟨rfl, g0, b0⟩
    have B0 := Lib.hid b0
    clear g0 b0
    go_wp2_with fail
    all_goals go_ret
    all_goals exact ⟨rfl, B0.out.alloc B0.out.size _⟩

theorem numberTurns_any (i x y : Int) (a d : Addr) (w : World) (hx : fits x = true) (hy : fits y = true) (hL : Laid10 a d w) :
    Calls Tryd.prog 3 #[.int .i64 i, .int .i64 x, .int .i64 y] w fun r w' => r = .returned (.bool true) ∧ Below w.heap.size w w' := by
  by_cases hi : 0 ≤ i ∧ i < 8
  · have h8 : i = 0 ∨ i = 1 ∨ i = 2 ∨ i = 3 ∨ i = 4 ∨ i = 5 ∨ i = 6 ∨ i = 7 := by omega
    rcases h8 with rfl | rfl | rfl | rfl | rfl | rfl | rfl | rfl
    · exact numberTurns_0 x y a d w hx hy hL
    · exact numberTurns_1 x y a d w hx hy hL
    · exact numberTurns_2 x y a d w hx hy hL
    · exact numberTurns_3 x y a d w hx hy hL
    · exact numberTurns_4 x y a d w hx hy hL
    · exact numberTurns_5 x y a d w hx hy hL
    · exact numberTurns_6 x y a d w hx hy hL
    · exact numberTurns_7 x y a d w hx hy hL
  · exact numberTurns_out i x y a d w hi hL
end Go.Proofs.YtkghmcfbhojbaabDoor
