/-
  The statement NumberSigns.
-/
import Derived.Test.YtkghmcfbhojbaaaDoorProg
import Derived.Test.YtkghmcfbhojbaaaDoorReg
import Derived.WalkKit
import Derived.WalkSpells
import Derived.WalkLawsBesides
import Derived.Lib.Hide
import Derived.Lib.MinMax
import Derived.Deep.QuietTactic
import Derived.BigQuiet
import Derived.OwnWalk
import Derived.Deep.AppendLies
import Derived.KernelRfl
import Derived.Test.YtkghmcfbhojbaaaDoorNumT
set_option linter.unusedSimpArgs false
set_option linter.unusedVariables false
namespace Go.Proofs.YtkghmcfbhojbaaaDoor
open Go.RowKit

/-- What the calls tell. -/
theorem signs_facts (y : Int) (hy : fits y = true) : ∃ s m f p n k, monOut gTimes y = (s, 0) ∧ monOut gRes y = (m, f) ∧ dyOut gTimes s m = (p, 0) ∧ monOut gTake y = (n, f) ∧ monOut gTake n = (k, 0) ∧
    fits s = true ∧ fits m = true ∧ fits n = true ∧ (f = 100 ∧ y < 0 ∨ f = 0 ∧ p = y ∧ 0 ≤ m ∧ k = y) := by
  have hy' := fits_iff.1 hy
  have r1 : monOut gTimes y = (bit (decide (0 < y)) - bit (decide (y < 0)), 0) := rfl
  have r2 : monOut gRes y = if y < 0 then orOver (-y) else (y, 0) := rfl
  have r3 : ∀ s m, dyOut gTimes s m = orOver (s * m) := fun _ _ => rfl
  have r4 : ∀ n, monOut gTake n = orOver (-n) := fun _ => rfl
  have ok : ∀ n, -9223372036854775808 ≤ n → n ≤ 9223372036854775807 → orOver n = (n, 0) := fun n h1 h2 => by
    have : fits n = true := fits_iff.2 ⟨h1, h2⟩
    simp [orOver, this]
  simp only [r1, r2, r3, r4]
  rcases Int.lt_trichotomy y 0 with h | h | h
  · have e1 : bit (decide (0 < y)) - bit (decide (y < 0)) = -1 := by
      have : ¬ 0 < y := by omega
      simp [bit, h, this]
    rw [e1, if_pos h]
    by_cases hm : y = -9223372036854775808
    · subst hm
      exact ⟨-1, 0, 100, 0, 0, 0, rfl, by decide, by decide, by decide, by decide, by decide, by decide, by decide, Or.inl ⟨rfl, h⟩⟩
    · refine ⟨-1, -y, 0, y, -y, y, rfl, ok _ (by omega) (by omega), ?_, ok _ (by omega) (by omega), ?_, by decide, fits_iff.2 (by omega), fits_iff.2 (by omega), Or.inr ⟨rfl, rfl, by omega, rfl⟩⟩
      · have : -1 * -y = y := by omega
        rw [this]
        exact ok _ hy'.1 hy'.2
      · rw [Int.neg_neg]
        exact ok _ hy'.1 hy'.2
  · subst h
    exact ⟨0, 0, 0, 0, 0, 0, by decide, by decide, by decide, by decide, by decide, by decide, by decide, by decide, Or.inr ⟨rfl, rfl, by omega, rfl⟩⟩
  · have e1 : bit (decide (0 < y)) - bit (decide (y < 0)) = 1 := by
      have : ¬ y < 0 := by omega
      simp [bit, h, this]
    rw [e1, if_neg (by omega)]
    refine ⟨1, y, 0, y, -y, y, rfl, rfl, ?_, ok _ (by omega) (by omega), ?_, by decide, hy, fits_iff.2 (by omega), Or.inr ⟨rfl, rfl, by omega, rfl⟩⟩
    · rw [Int.one_mul]
      exact ok _ hy'.1 hy'.2
    · rw [Int.neg_neg]
      exact ok _ hy'.1 hy'.2

set_option maxRecDepth 100000 in
set_option maxHeartbeats 8000000 in
theorem numberSigns_any (y : Int) (a d : Addr) (w : World) (hy : fits y = true) (hL : Laid10 a d w) :
    Calls Tryd.prog 6 #[.int .i64 y] w fun r w' => r = .returned (.bool true) ∧ Below w.heap.size w w' := by
  obtain ⟨s, m, f, p, n, k, e1, e2, e3, e4, e5, fs, fm, fn, hc⟩ := signs_facts y hy
  have S0 := Lib.hid (shown_any a d w hL)
  have D1 := Lib.hid (fun u hu => mon_is gTimes (short _ (by decide)) y s 0 a d u hy hu e1)
  have D2 := Lib.hid (fun u hu => mon_is gRes (short _ (by decide)) y m f a d u hy hu e2)
  have D3 := Lib.hid (fun u hu => dy_is gTimes (short _ (by decide)) s m p 0 a d u fs fm hu e3)
  have D4 := Lib.hid (fun u hu => mon_is gTake (short _ (by decide)) y n f a d u hy hu e4)
  have D5 := Lib.hid (fun u hu => mon_is gTake (short _ (by decide)) n k 0 a d u fn hu e5)
  have q1 : (y == y) = true := by simp
  clear e1 e2 e3 e4 e5 fs fm fn hy hL
  rcases hc with ⟨rfl, h⟩ | ⟨rfl, rfl, h, rfl⟩
  · have h1 : decide (y < 0) = true := by simpa using h
    clear h
    go_enter Tryd.func6, Tryd.ntmps6
    go_wp2_with fail
    refine S0.out.mono ?_
    rintro r w0 ⟨rfl, h0, b0⟩
    have H0 := Lib.hid h0
    have B0 := Lib.hid b0
    clear h0 b0
    go_wp2_with fail
    refine (D1.out w0 H0.out).mono ?_
    rintro r w1 ⟨rfl, h1, b1⟩
    have H1 := Lib.hid h1
    have B1 := Lib.hid (B0.out.trans (b1.mono B0.out.size))
    clear h1 b1
    go_wp2_with fail
    refine (D2.out w1 H1.out).mono ?_
    rintro r w2 ⟨rfl, h2, b2⟩
    have H2 := Lib.hid h2
    have B2 := Lib.hid (B1.out.trans (b2.mono B1.out.size))
    clear h2 b2
    go_wp2_with fail
    refine (D3.out w2 H2.out).mono ?_
    rintro r w3 ⟨rfl, h3, b3⟩
    have H3 := Lib.hid h3
    have B3 := Lib.hid (B2.out.trans (b3.mono B2.out.size))
    clear h3 b3
    go_wp2_with fail
    refine (D4.out w3 H3.out).mono ?_
    rintro r w4 ⟨rfl, h4, b4⟩
    have H4 := Lib.hid h4
    have B4 := Lib.hid (B3.out.trans (b4.mono B3.out.size))
    clear h4 b4
    go_wp2_with fail
    refine (D5.out w4 H4.out).mono ?_
    rintro r w5 ⟨rfl, h5, b5⟩
    have H5 := Lib.hid h5
    have B5 := Lib.hid (B4.out.trans (b5.mono B4.out.size))
    clear h5 b5
    go_wp2_with fail
    all_goals go_ret
    all_goals exact ⟨rfl, B5.out⟩
  · have h1 : decide (0 ≤ m) = true := by simpa using h
    clear h
    go_enter Tryd.func6, Tryd.ntmps6
    go_wp2_with fail
    refine S0.out.mono ?_
    rintro r w0 ⟨rfl, h0, b0⟩
    have H0 := Lib.hid h0
    have B0 := Lib.hid b0
    clear h0 b0
    go_wp2_with fail
    refine (D1.out w0 H0.out).mono ?_
    rintro r w1 ⟨rfl, h1, b1⟩
    have H1 := Lib.hid h1
    have B1 := Lib.hid (B0.out.trans (b1.mono B0.out.size))
    clear h1 b1
    go_wp2_with fail
    refine (D2.out w1 H1.out).mono ?_
    rintro r w2 ⟨rfl, h2, b2⟩
    have H2 := Lib.hid h2
    have B2 := Lib.hid (B1.out.trans (b2.mono B1.out.size))
    clear h2 b2
    go_wp2_with fail
    refine (D3.out w2 H2.out).mono ?_
    rintro r w3 ⟨rfl, h3, b3⟩
    have H3 := Lib.hid h3
    have B3 := Lib.hid (B2.out.trans (b3.mono B2.out.size))
    clear h3 b3
    go_wp2_with fail
    refine (D4.out w3 H3.out).mono ?_
    rintro r w4 ⟨rfl, h4, b4⟩
    have H4 := Lib.hid h4
    have B4 := Lib.hid (B3.out.trans (b4.mono B3.out.size))
    clear h4 b4
    go_wp2_with fail
    refine (D5.out w4 H4.out).mono ?_
    rintro r w5 ⟨rfl, h5, b5⟩
    have H5 := Lib.hid h5
    have B5 := Lib.hid (B4.out.trans (b5.mono B4.out.size))
    clear h5 b5
    go_wp2_with fail
    all_goals go_ret
    all_goals exact ⟨rfl, B5.out⟩
end Go.Proofs.YtkghmcfbhojbaaaDoor
