/-
  The document's answers of layer 10: sums, differences, products, quotients, residues.
-/
import Derived.Test.YtkghmcfbhojbaaaDoorProg
import Derived.Test.YtkghmcfbhojbaaaDoorReg
import Derived.WalkKit
import Derived.WalkSpells
import Derived.WalkLawsBesides
import Derived.Lib.Hide
import Derived.Lib.MinMax
import Derived.Deep.QuietTactic
import Derived.BigQuiet
import Derived.OwnWalk
import Derived.Deep.AppendLies
import Derived.KernelRfl
import Derived.Test.YtkghmcfbhojbaaaDoorNumT
set_option linter.unusedSimpArgs false
set_option linter.unusedVariables false
namespace Go.Proofs.YtkghmcfbhojbaaaDoor
open Go.RowKit

theorem rbit_any (x : Bool) (w : World) : Calls Tryd.prog 29 #[.bool x] w fun r w' => r = .returned (.int .i64 (bit x)) ∧ w' = w := by
  go_enter Tryd.func29, Tryd.ntmps29
  cases x with
  | true =>
    go_wp2
    go_ret
    exact ⟨rfl, rfl⟩
  | false =>
    go_wp2
    go_ret
    exact ⟨rfl, rfl⟩

theorem rleast_any (w : World) : Calls Tryd.prog 52 #[] w fun r w' => r = .returned (.int .i64 (-9223372036854775808)) ∧ w' = w := by
  go_enter Tryd.func52, Tryd.ntmps52
  go_wp2
  go_ret
  exact ⟨rfl, rfl⟩

theorem over_yes {n : Int} (h : fits n = true) : orOver n = (n, 0) := by simp [orOver, h]
theorem over_no {n : Int} (h : fits n = false) : orOver n = (0, 100) := by simp [orOver, h]

set_option maxRecDepth 100000 in
set_option maxHeartbeats 4000000 in
theorem radd_any (x y : Int) (w : World) (hx : fits x = true) (hy : fits y = true) :
    Calls Tryd.prog 23 #[.int .i64 x, .int .i64 y] w fun r w' => r = .returned (.tuple #[.int .i64 (orOver (x + y)).1, .int .i64 (orOver (x + y)).2]) ∧ w' = w := by
  generalize hs : IntKind.i64.wrap (x + y) = s
  have hs' := hs
  rw [wrap_i64] at hs'
  unfold wrap64 at hs'
  rw [fits_iff] at hx hy
  have hc : (fits (x + y) = true ∧ s = x + y ∧ -9223372036854775808 ≤ x + y ∧ x + y ≤ 9223372036854775807) ∨ (fits (x + y) = false ∧ ¬ (-9223372036854775808 ≤ x + y ∧ x + y ≤ 9223372036854775807)) := by
    cases hf : fits (x + y) with
    | true => rw [fits_iff] at hf; exact Or.inl ⟨rfl, by omega, hf⟩
    | false => rw [fits_no] at hf; exact Or.inr ⟨rfl, hf⟩
  by_cases h1 : x < 0 <;> by_cases g1 : 0 < x <;> by_cases h2 : y < 0 <;> by_cases g2 : 0 < y <;> by_cases h3 : s < 0 <;> rcases hc with ⟨hf, hv, hc⟩ | ⟨hf, hc⟩
  all_goals try (exfalso; omega)
  all_goals
    first
      | rw [over_yes hf]
      | rw [over_no hf]
    first
      | have g3 : 0 ≤ s := by omega
      | have g3 : ¬ 0 ≤ s := by omega
    try subst hv
    clear hs' hx hy hc hf
    go_enter Tryd.func23, Tryd.ntmps23
    go_wp2_with fail
    all_goals go_ret2
    all_goals exact ⟨rfl, rfl⟩

set_option maxRecDepth 100000 in
set_option maxHeartbeats 4000000 in
theorem rtake_any (x y : Int) (w : World) (hx : fits x = true) (hy : fits y = true) :
    Calls Tryd.prog 24 #[.int .i64 x, .int .i64 y] w fun r w' => r = .returned (.tuple #[.int .i64 (orOver (x - y)).1, .int .i64 (orOver (x - y)).2]) ∧ w' = w := by
  generalize hs : IntKind.i64.wrap (x - y) = s
  have hs' := hs
  rw [wrap_i64] at hs'
  unfold wrap64 at hs'
  rw [fits_iff] at hx hy
  have hc : (fits (x - y) = true ∧ s = x - y ∧ -9223372036854775808 ≤ x - y ∧ x - y ≤ 9223372036854775807) ∨ (fits (x - y) = false ∧ ¬ (-9223372036854775808 ≤ x - y ∧ x - y ≤ 9223372036854775807)) := by
    cases hf : fits (x - y) with
    | true => rw [fits_iff] at hf; exact Or.inl ⟨rfl, by omega, hf⟩
    | false => rw [fits_no] at hf; exact Or.inr ⟨rfl, hf⟩
  by_cases h1 : x < 0 <;> by_cases h2 : y < 0 <;> by_cases g2 : 0 < y <;> by_cases h3 : s < 0 <;> rcases hc with ⟨hf, hv, hc⟩ | ⟨hf, hc⟩
  all_goals try (exfalso; omega)
  all_goals
    first
      | rw [over_yes hf]
      | rw [over_no hf]
    first
      | have g3 : 0 ≤ s := by omega
      | have g3 : ¬ 0 ≤ s := by omega
    first
      | have g1 : 0 ≤ x := by omega
      | have g1 : ¬ 0 ≤ x := by omega
    try subst hv
    clear hs' hx hy hc hf
    go_enter Tryd.func24, Tryd.ntmps24
    go_wp2_with fail
    all_goals go_ret2
    all_goals exact ⟨rfl, rfl⟩

theorem tmod_facts' (y x : Int) (hx : x ≠ 0) : y.tmod x = y - x * (y.tdiv x) ∧ (0 ≤ y → 0 ≤ y.tmod x) ∧ (y ≤ 0 → y.tmod x ≤ 0) ∧ (y.tmod x < x ∨ x < 0) ∧ (y.tmod x < -x ∨ 0 < x) ∧ (-x < y.tmod x ∨ x < 0) ∧ (x < y.tmod x ∨ 0 < x) := by
  have h1 := Int.tmod_def y x
  have h2 : 0 ≤ y → 0 ≤ y.tmod x := fun h => Int.tmod_nonneg x h
  have h3 : y ≤ 0 → y.tmod x ≤ 0 := fun h => by
    have h4 := Int.tmod_nonneg x (a := -y) (by omega)
    rw [Int.neg_tmod] at h4
    omega
  have h5 : (y.tmod x).natAbs < x.natAbs := by
    rw [Int.natAbs_tmod]
    exact Nat.mod_lt _ (by omega)
  refine ⟨h1, h2, h3, ?_, ?_, ?_, ?_⟩ <;> omega

theorem rtimes_test (x y : Int) (hx : fits x = true) (hy : fits y = true) (y0 : y ≠ 0) (hs : ¬ (x = -9223372036854775808 ∧ y = -1)) :
    fits (x * y) = decide (IntKind.i64.wrap ((IntKind.i64.wrap (x * y)).tdiv y) = x) ∧ (fits (x * y) = true → IntKind.i64.wrap (x * y) = x * y) := by
  have hx' := fits_iff.1 hx
  have hy' := fits_iff.1 hy
  have e : fits (x * y) = true → IntKind.i64.wrap (x * y) = x * y := fun h => by
    rw [fits_iff] at h
    rw [wrap_i64]
    unfold wrap64
    omega
  refine ⟨?_, e⟩
  have ex : IntKind.i64.wrap x = x := by rw [wrap_i64]; unfold wrap64; omega
  rw [Bool.eq_iff_iff, decide_eq_true_eq]
  constructor
  · intro h
    rw [e h, Int.mul_tdiv_cancel x y0, ex]
  · intro h
    by_cases h1 : y = -1
    · subst h1
      rw [fits_iff]
      omega
    · have fp : fits (IntKind.i64.wrap (x * y)) = true := by
        rw [fits_iff, wrap_i64]
        unfold wrap64
        omega
      rw [tdiv_fits _ y fp hy y0 h1] at h
      obtain ⟨t1, t2, t3, t4, t5, t6, t7⟩ := tmod_facts' (IntKind.i64.wrap (x * y)) y y0
      rw [h, Int.mul_comm y x] at t1
      rw [fits_iff]
      rw [wrap_i64] at *
      unfold wrap64 at *
      generalize x * y = z at *
      omega
end Go.Proofs.YtkghmcfbhojbaaaDoor
