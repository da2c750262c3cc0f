/-
  The document's answers of layer 10: products, quotients, residues, comparing, which glyphs.
-/
import Derived.Test.YtkghmcfbhojbaaaDoorProg
import Derived.Test.YtkghmcfbhojbaaaDoorReg
import Derived.WalkKit
import Derived.WalkSpells
import Derived.WalkLawsBesides
import Derived.Lib.Hide
import Derived.Lib.MinMax
import Derived.Deep.QuietTactic
import Derived.BigQuiet
import Derived.OwnWalk
import Derived.Deep.AppendLies
import Derived.KernelRfl
import Derived.Test.YtkghmcfbhojbaaaDoorNumU
set_option linter.unusedSimpArgs false
set_option linter.unusedVariables false
namespace Go.Proofs.YtkghmcfbhojbaaaDoor
open Go.RowKit

set_option maxRecDepth 100000 in
set_option maxHeartbeats 4000000 in
theorem rtimes_any (x y : Int) (w : World) (hx : fits x = true) (hy : fits y = true) :
    Calls Tryd.prog 25 #[.int .i64 x, .int .i64 y] w fun r w' => r = .returned (.tuple #[.int .i64 (orOver (x * y)).1, .int .i64 (orOver (x * y)).2]) ∧ w' = w := by
  by_cases h0 : x = 0
  · subst h0
    rw [Int.zero_mul]
    clear hx hy
    go_enter Tryd.func25, Tryd.ntmps25
    go_wp2_with fail
    go_ret2
    exact ⟨rfl, rfl⟩
  by_cases h1 : y = 0
  · subst h1
    have q0 : (x == 0) = false := by simpa using h0
    rw [Int.mul_zero]
    clear hx hy h0
    go_enter Tryd.func25, Tryd.ntmps25
    go_wp2_with fail
    go_ret2
    exact ⟨rfl, rfl⟩
  by_cases h2 : x = -9223372036854775808 ∧ y = -1
  · obtain ⟨rfl, rfl⟩ := h2
    have e : orOver (-9223372036854775808 * -1) = (0, 100) := by decide +kernel
    rw [e]
    clear e
    clear hx hy h0 h1
    go_enter Tryd.func25, Tryd.ntmps25
    go_wp2_with (go_at_call 52; refine (rleast_any _).mono ?_; rintro r w' ⟨rfl, rfl⟩)
    go_ret2
    exact ⟨rfl, rfl⟩
  by_cases h3 : y = -9223372036854775808 ∧ x = -1
  · obtain ⟨rfl, rfl⟩ := h3
    have e : orOver (-1 * -9223372036854775808) = (0, 100) := by decide +kernel
    rw [e]
    clear e
    clear hx hy h0 h1 h2
    go_enter Tryd.func25, Tryd.ntmps25
    go_wp2_with (go_at_call 52; refine (rleast_any _).mono ?_; rintro r w' ⟨rfl, rfl⟩)
    go_ret2
    exact ⟨rfl, rfl⟩
  obtain ⟨t1, t2⟩ := rtimes_test x y hx hy h1 h2
  have q0 : (x == 0) = false := by simpa using h0
  have q1 : (y == 0) = false := by simpa using h1
  generalize hp : IntKind.i64.wrap (x * y) = p at t1 t2
  generalize hq : IntKind.i64.wrap (p.tdiv y) = q at t1
  obtain ⟨ok, hok⟩ : ∃ ok, decide (q = x) = ok := ⟨_, rfl⟩
  have q2 : (q == x) = ok := hok
  have q3 : (q != x) = !ok := by rw [← q2]; rfl
  rw [hok] at t1
  have e : orOver (x * y) = if ok = true then (p, 0) else (0, 100) := by
    unfold orOver
    rw [t1]
    cases ok with
    | true => rw [t2 t1]
    | false => rfl
  rw [e]
  clear e t1 t2 hok hx hy h0
  by_cases g1 : x = -9223372036854775808 <;> by_cases g2 : y = -9223372036854775808
  · have b1 : (x == -9223372036854775808) = true := by simpa using g1
    have b2 : (y == -1) = false := by simp; omega
    have b3 : (y == -9223372036854775808) = true := by simpa using g2
    have b4 : (x == -1) = false := by simp; omega
    clear g1 g2 h2 h3
    go_enter Tryd.func25, Tryd.ntmps25
    cases ok
    all_goals
      go_wp2_with (go_at_call 52; refine (rleast_any _).mono ?_; rintro r w' ⟨rfl, rfl⟩)
      go_ret2
      exact ⟨rfl, rfl⟩
  · have b1 : (x == -9223372036854775808) = true := by simpa using g1
    have b2 : (y == -1) = false := by simp; omega
    have b3 : (y == -9223372036854775808) = false := by simpa using g2
    clear g1 g2 h2 h3
    go_enter Tryd.func25, Tryd.ntmps25
    cases ok
    all_goals
      go_wp2_with (go_at_call 52; refine (rleast_any _).mono ?_; rintro r w' ⟨rfl, rfl⟩)
      go_ret2
      exact ⟨rfl, rfl⟩
  · have b1 : (x == -9223372036854775808) = false := by simpa using g1
    have b3 : (y == -9223372036854775808) = true := by simpa using g2
    have b4 : (x == -1) = false := by simp; omega
    clear g1 g2 h2 h3
    go_enter Tryd.func25, Tryd.ntmps25
    cases ok
    all_goals
      go_wp2_with (go_at_call 52; refine (rleast_any _).mono ?_; rintro r w' ⟨rfl, rfl⟩)
      go_ret2
      exact ⟨rfl, rfl⟩
  · have b1 : (x == -9223372036854775808) = false := by simpa using g1
    have b3 : (y == -9223372036854775808) = false := by simpa using g2
    clear g1 g2 h2 h3
    go_enter Tryd.func25, Tryd.ntmps25
    cases ok
    all_goals
      go_wp2_with (go_at_call 52; refine (rleast_any _).mono ?_; rintro r w' ⟨rfl, rfl⟩)
      go_ret2
      exact ⟨rfl, rfl⟩

theorem div_plain (x y : Int) (hx : fits x = true) (hy : fits y = true) (h0 : y ≠ 0) (h1 : ¬ (x = -9223372036854775808 ∧ y = -1)) :
    divOut x y = (if x.tmod y = 0 then (x.tdiv y, 0) else (0, 101)) ∧ IntKind.i64.wrap (x.tdiv y) = x.tdiv y := by
  by_cases h2 : y = -1
  · subst h2
    have e1 : x.tmod (-1) = 0 := by rw [Int.tmod_neg]; simp
    have e2 : x.tdiv (-1) = -x := by rw [Int.tdiv_neg]; simp
    have hx' := fits_iff.1 hx
    have e3 : fits (-x) = true := fits_iff.2 (by omega)
    refine ⟨?_, ?_⟩
    · simp [divOut, e1, e2, over_yes e3]
    · rw [e2, wrap_i64]
      unfold wrap64
      omega
  · refine ⟨?_, tdiv_fits x y hx hy h0 h2⟩
    simp [divOut, h0, h2]

set_option maxRecDepth 100000 in
set_option maxHeartbeats 4000000 in
theorem rdivide_any (x y : Int) (w : World) (hx : fits x = true) (hy : fits y = true) :
    Calls Tryd.prog 26 #[.int .i64 x, .int .i64 y] w fun r w' => r = .returned (.tuple #[.int .i64 (divOut x y).1, .int .i64 (divOut x y).2]) ∧ w' = w := by
  by_cases h0 : y = 0
  · subst h0
    by_cases h1 : x = 0
    · subst h1
      clear hx hy
      go_enter Tryd.func26, Tryd.ntmps26
      go_wp2_with fail
      go_ret2
      exact ⟨rfl, rfl⟩
    · have q : (x == 0) = false := by simpa using h1
      have e : divOut x 0 = (0, 101) := by simp [divOut, h1]
      rw [e]
      clear hx hy h1 e
      go_enter Tryd.func26, Tryd.ntmps26
      go_wp2_with fail
      go_ret2
      exact ⟨rfl, rfl⟩
  · by_cases h1 : x = -9223372036854775808 ∧ y = -1
    · obtain ⟨rfl, rfl⟩ := h1
      clear hx hy h0
      go_enter Tryd.func26, Tryd.ntmps26
      go_wp2_with (go_at_call 52; refine (rleast_any _).mono ?_; rintro r w' ⟨rfl, rfl⟩)
      go_ret2
      exact ⟨rfl, rfl⟩
    · obtain ⟨e, hq⟩ := div_plain x y hx hy h0 h1
      have q0 : (y == 0) = false := by simpa using h0
      obtain ⟨ok, hok⟩ : ∃ ok, (x.tmod y == 0) = ok := ⟨_, rfl⟩
      have e2 : divOut x y = if ok = true then (x.tdiv y, 0) else (0, 101) := by
        rw [e]
        cases ok with
        | true => have : x.tmod y = 0 := by simpa using hok
                  simp [this]
        | false => have : ¬ x.tmod y = 0 := by simpa using hok
                   simp [this]
      rw [e2]
      have q3 : (x.tmod y != 0) = !ok := by rw [← hok]; rfl
      clear e e2 hx hy
      by_cases g1 : x = -9223372036854775808
      · have b1 : (x == -9223372036854775808) = true := by simpa using g1
        have b2 : (y == -1) = false := by simp; omega
        clear g1 h1
        go_enter Tryd.func26, Tryd.ntmps26
        cases ok
        all_goals
          go_wp2_with (go_at_call 52; refine (rleast_any _).mono ?_; rintro r w' ⟨rfl, rfl⟩)
          go_ret2
          exact ⟨by first | rfl | simp [← hq] | simp [hq], rfl⟩
      · have b1 : (x == -9223372036854775808) = false := by simpa using g1
        clear g1 h1
        go_enter Tryd.func26, Tryd.ntmps26
        cases ok
        all_goals
          go_wp2_with (go_at_call 52; refine (rleast_any _).mono ?_; rintro r w' ⟨rfl, rfl⟩)
          go_ret2
          exact ⟨by first | rfl | simp [← hq] | simp [hq], rfl⟩

set_option maxRecDepth 100000 in
set_option maxHeartbeats 4000000 in
theorem rresidue_any (x y : Int) (w : World) :
    Calls Tryd.prog 27 #[.int .i64 x, .int .i64 y] w fun r w' => r = .returned (.int .i64 (resid x y)) ∧ w' = w := by
  by_cases h0 : x = 0
  · subst h0
    go_enter Tryd.func27, Tryd.ntmps27
    go_wp2_with fail
    go_ret
    exact ⟨by simp [resid], rfl⟩
  · by_cases h1 : x = -1
    · subst h1
      go_enter Tryd.func27, Tryd.ntmps27
      go_wp2_with fail
      go_ret
      exact ⟨by simp [resid], rfl⟩
    · have q0 : (x == 0) = false := by simpa using h0
      have q1 : (x == -1) = false := by simpa using h1
      obtain ⟨r, hr⟩ : ∃ r, y.tmod x = r := ⟨_, rfl⟩
      have q2 : (r == 0) = decide (r = 0) := rfl
      by_cases g0 : r = 0 <;> by_cases g1 : r < 0 <;> by_cases g2 : x < 0
      all_goals try (exfalso; omega)
      all_goals
        go_enter Tryd.func27, Tryd.ntmps27
        go_wp2_with fail
        all_goals go_ret
        all_goals exact ⟨by first | (simp [resid, h0, h1, hr, g0, g1, g2]; done) | (simp [resid, h0, h1, hr, g0, g1, g2, IntWalk.i64_left]; done) | (simp [resid, h0, h1, hr, g0, g1, g2, IntWalk.i64_left]; omega), rfl⟩
end Go.Proofs.YtkghmcfbhojbaaaDoor
