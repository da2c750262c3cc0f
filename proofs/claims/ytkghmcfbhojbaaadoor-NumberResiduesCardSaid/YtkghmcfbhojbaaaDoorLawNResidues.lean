/-
  The statement NumberResidues.
-/
import Derived.Test.YtkghmcfbhojbaaaDoorProg
import Derived.Test.YtkghmcfbhojbaaaDoorReg
import Derived.WalkKit
import Derived.WalkSpells
import Derived.WalkLawsBesides
import Derived.Lib.Hide
import Derived.Lib.MinMax
import Derived.Deep.QuietTactic
import Derived.BigQuiet
import Derived.OwnWalk
import Derived.Deep.AppendLies
import Derived.KernelRfl
import Derived.Test.YtkghmcfbhojbaaaDoorNumT
set_option linter.unusedSimpArgs false
set_option linter.unusedVariables false
namespace Go.Proofs.YtkghmcfbhojbaaaDoor
open Go.RowKit

theorem tmod_facts (y x : Int) (hx : x ≠ 0) : y.tmod x = y - x * (y.tdiv x) ∧ (0 ≤ y → 0 ≤ y.tmod x) ∧ (y ≤ 0 → y.tmod x ≤ 0) ∧ (y.tmod x < x ∨ x < 0) ∧ (y.tmod x < -x ∨ 0 < x) ∧ (-x < y.tmod x ∨ x < 0) ∧ (x < y.tmod x ∨ 0 < x) := by
  have h1 := Int.tmod_def y x
  have h2 : 0 ≤ y → 0 ≤ y.tmod x := fun h => Int.tmod_nonneg x h
  have h3 : y ≤ 0 → y.tmod x ≤ 0 := fun h => by
    have h4 := Int.tmod_nonneg x (a := -y) (by omega)
    rw [Int.neg_tmod] at h4
    omega
  have h5 : (y.tmod x).natAbs < x.natAbs := by
    rw [Int.natAbs_tmod]
    exact Nat.mod_lt _ (by omega)
  refine ⟨h1, h2, h3, ?_, ?_, ?_, ?_⟩ <;> omega

/-- A residue lies from 0 up to x. -/
theorem resid_within (x y : Int) (hx : fits x = true) (h0 : x ≠ 0) :
    (0 < x → 0 ≤ resid x y ∧ resid x y < x) ∧ (x < 0 → resid x y ≤ 0 ∧ x < resid x y) ∧ ∃ k, y - resid x y = x * k := by
  rw [fits_iff] at hx
  obtain ⟨e, f1, f2, f3, f4, f5, f6⟩ := tmod_facts y x h0
  unfold resid
  rw [if_neg h0]
  by_cases h1 : x = -1
  · subst h1
    refine ⟨by omega, fun _ => ⟨by simp, by simp⟩, -y, by simp⟩
  · rw [if_neg h1]
    generalize hq : y.tdiv x = q at e
    generalize y.tmod x = r at *
    split
    · rename_i hc
      refine ⟨fun h => ?_, fun h => ?_, q, by omega⟩
      · rcases hc with rfl | hc
        · omega
        · omega
      · rcases hc with rfl | hc
        · omega
        · omega
    · rename_i hc
      rw [not_or] at hc
      have ew : wrap64 (r + x) = r + x := by unfold wrap64; omega
      rw [ew]
      refine ⟨fun h => ?_, fun h => ?_, q - 1, ?_⟩
      · have := hc.1
        have := hc.2
        omega
      · have := hc.1
        have := hc.2
        omega
      · rw [Int.mul_sub]
        omega

/-- What the calls tell; x is not 0. -/
theorem residues_facts (x y : Int) (hx : fits x = true) (hy : fits y = true) (h0 : x ≠ 0) : ∃ r d f q g, dyOut gRes x y = (r, 0) ∧ dyOut gTake y r = (d, f) ∧ dyOut gDiv d x = (q, g) ∧ fits r = true ∧ fits d = true ∧
    (0 < x ∧ 0 ≤ r ∧ r < x ∨ x < 0 ∧ r ≤ 0 ∧ x < r) ∧ (f = 100 ∨ f = 0 ∧ (g = 0 ∨ g = 100)) := by
  obtain ⟨h1, h2, k, hk⟩ := resid_within x y hx h0
  have hx' := fits_iff.1 hx
  refine ⟨resid x y, (orOver (y - resid x y)).1, (orOver (y - resid x y)).2, (dyOut gDiv (orOver (y - resid x y)).1 x).1, (dyOut gDiv (orOver (y - resid x y)).1 x).2, rfl, rfl, rfl, ?_, orOver_fits _, ?_, ?_⟩
  · rw [fits_iff]
    rcases Int.lt_or_gt_of_ne h0 with h | h
    · have := h2 h
      omega
    · have := h1 h
      omega
  · rcases Int.lt_or_gt_of_ne h0 with h | h
    · exact Or.inr ⟨h, h2 h⟩
    · exact Or.inl ⟨h, h1 h⟩
  · rw [hk]
    cases h : fits (x * k) with
    | false => left; simp [orOver, h]
    | true =>
      right
      have e1 : orOver (x * k) = (x * k, 0) := by simp [orOver, h]
      have e2 : dyOut gDiv (x * k) x = divOut (x * k) x := rfl
      have e5 : (x * k).tmod x = 0 := Int.mul_tmod_right x k
      rw [e1]
      refine ⟨rfl, ?_⟩
      simp only [e2]
      unfold divOut
      rw [if_neg h0]
      by_cases h1 : x = -1
      · rw [if_pos h1]
        unfold orOver
        split
        · exact Or.inl rfl
        · exact Or.inr rfl
      · rw [if_neg h1, if_pos e5]
        exact Or.inl rfl

set_option maxRecDepth 100000 in
set_option maxHeartbeats 8000000 in
theorem numberResidues_any (x y : Int) (a d : Addr) (w : World) (hx : fits x = true) (hy : fits y = true) (hL : Laid10 a d w) :
    Calls Tryd.prog 4 #[.int .i64 x, .int .i64 y] w fun r w' => r = .returned (.bool true) ∧ Below w.heap.size w w' := by
  have S0 := Lib.hid (shown_any a d w hL)
  by_cases h0 : x = 0
  · subst h0
    have D1 := Lib.hid (fun u hu => dy_is gRes (short _ (by decide)) 0 y y 0 a d u hx hy hu rfl)
    have by_ : (y == y) = true := by simp
    clear hx hy hL
    go_enter Tryd.func4, Tryd.ntmps4
    go_wp2_with fail
    refine S0.out.mono ?_
    rintro r w0 ⟨rfl, h0, b0⟩
    have H0 := Lib.hid h0
    have B0 := Lib.hid b0
    clear h0 b0
    go_wp2_with fail
    refine (D1.out w0 H0.out).mono ?_
    rintro r w1 ⟨rfl, h1, b1⟩
    have H1 := Lib.hid h1
    have B1 := Lib.hid (B0.out.trans (b1.mono B0.out.size))
    clear h1 b1
    go_wp2_with fail
    go_ret
    exact ⟨rfl, B1.out⟩
  · obtain ⟨r, m, f, q, g, e1, e2, e3, fr, fm, c1, c2⟩ := residues_facts x y hx hy h0
    have D1 := Lib.hid (fun u hu => dy_is gRes (short _ (by decide)) x y r 0 a d u hx hy hu e1)
    have D2 := Lib.hid (fun u hu => dy_is gTake (short _ (by decide)) y r m f a d u hy fr hu e2)
    have D3 := Lib.hid (fun u hu => dy_is gDiv (short _ (by decide)) m x q g a d u fm hx hu e3)
    have x0 : (x == 0) = false := by simpa using h0
    clear e1 e2 e3 fr fm hx hy hL h0
    rcases c1 with ⟨g1, g2, g3⟩ | ⟨g1, g2, g3⟩ <;> rcases c2 with rfl | ⟨rfl, rfl | rfl⟩
    all_goals
      first
        | (have k1 : decide (0 < x) = true := by simp; omega
           have k2 : decide (0 ≤ r) = true := by simp; omega
           have k3 : decide (r < x) = true := by simp; omega)
        | (have k1 : decide (0 < x) = false := by simp; omega
           have k2 : decide (x < 0) = true := by simp; omega
           have k3 : decide (r ≤ 0) = true := by simp; omega
           have k4 : decide (x < r) = true := by simp; omega)
      clear g1 g2 g3
      go_enter Tryd.func4, Tryd.ntmps4
      go_wp2_with fail
      refine S0.out.mono ?_
      rintro r w0 ⟨rfl, h0, b0⟩
      have H0 := Lib.hid h0
      have B0 := Lib.hid b0
      clear h0 b0
      go_wp2_with fail
      refine (D1.out w0 H0.out).mono ?_
      rintro r w1 ⟨rfl, h1, b1⟩
      have H1 := Lib.hid h1
      have B1 := Lib.hid (B0.out.trans (b1.mono B0.out.size))
      clear h1 b1
      go_wp2_with fail
      refine (D2.out w1 H1.out).mono ?_
      rintro r w2 ⟨rfl, h2, b2⟩
      have H2 := Lib.hid h2
      have B2 := Lib.hid (B1.out.trans (b2.mono B1.out.size))
      clear h2 b2
      go_wp2_with fail
      refine (D3.out w2 H2.out).mono ?_
      rintro r w3 ⟨rfl, h3, b3⟩
      have H3 := Lib.hid h3
      have B3 := Lib.hid (B2.out.trans (b3.mono B2.out.size))
      clear h3 b3
      go_wp2_with fail
      go_ret
      exact ⟨rfl, B3.out⟩
end Go.Proofs.YtkghmcfbhojbaaaDoor
