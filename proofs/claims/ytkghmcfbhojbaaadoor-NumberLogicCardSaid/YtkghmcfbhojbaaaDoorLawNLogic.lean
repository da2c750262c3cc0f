/-
  The statement NumberLogic.
-/
import Derived.Test.YtkghmcfbhojbaaaDoorProg
import Derived.Test.YtkghmcfbhojbaaaDoorReg
import Derived.WalkKit
import Derived.WalkSpells
import Derived.WalkLawsBesides
import Derived.Lib.Hide
import Derived.Lib.MinMax
import Derived.Deep.QuietTactic
import Derived.BigQuiet
import Derived.OwnWalk
import Derived.Deep.AppendLies
import Derived.KernelRfl
import Derived.Test.YtkghmcfbhojbaaaDoorNumT
set_option linter.unusedSimpArgs false
set_option linter.unusedVariables false
namespace Go.Proofs.YtkghmcfbhojbaaaDoor
open Go.RowKit

theorem not_facts (x : Int) : ∃ c g, monOut gNot x = (c, g) ∧ (c = 0 ∨ c = 1) ∧ (g = 0 ∧ (x = 0 ∨ x = 1) ∧ c = 1 - x ∨ g = 102 ∧ ¬ (x = 0 ∨ x = 1)) := by
  have r : monOut gNot x = if x = 0 ∨ x = 1 then (1 - x, 0) else (0, 102) := rfl
  rw [r]
  by_cases h : x = 0 ∨ x = 1
  · rw [if_pos h]
    exact ⟨_, _, rfl, by omega, Or.inl ⟨rfl, h, rfl⟩⟩
  · rw [if_neg h]
    exact ⟨_, _, rfl, by omega, Or.inr ⟨rfl, h⟩⟩

/-- What the calls tell. -/
theorem logic_facts (x y : Int) : ∃ p e b f c g m h i j, dyOut gAnd x y = (p, e) ∧ monOut gNot p = (b, f) ∧ monOut gNot x = (c, g) ∧ monOut gNot y = (m, h) ∧ dyOut gOr c m = (i, j) ∧
    fits p = true ∧ fits c = true ∧ fits m = true ∧ (e = 102 ∧ (g = 102 ∨ g = 0 ∧ h = 102) ∨ e = 0 ∧ f = 0 ∧ g = 0 ∧ h = 0 ∧ j = 0 ∧ i = b) := by
  have r1 : dyOut gAnd x y = if bits01 x y then (min x y, 0) else (0, 102) := by
    show logOut gAnd x y = _
    unfold logOut
    rfl
  obtain ⟨c, g, e1, c1, d1⟩ := not_facts x
  obtain ⟨m, h, e2, c2, d2⟩ := not_facts y
  obtain ⟨q, hq⟩ : ∃ q, dyOut gOr c m = q := ⟨_, rfl⟩
  obtain ⟨i, j⟩ := q
  have fc : fits c = true := fits_iff.2 (by omega)
  have fm : fits m = true := fits_iff.2 (by omega)
  cases hb : bits01 x y with
  | true =>
    have hb' := hb
    simp only [bits01, Bool.and_eq_true, decide_eq_true_eq] at hb'
    obtain ⟨hx, hy⟩ := hb'
    obtain ⟨rfl, _, rfl⟩ : g = 0 ∧ _ ∧ c = 1 - x := by rcases d1 with h | h; exact h; exact absurd hx h.2
    obtain ⟨rfl, _, rfl⟩ : h = 0 ∧ _ ∧ m = 1 - y := by rcases d2 with h | h; exact h; exact absurd hy h.2
    rw [r1, hb, e1, e2]
    rcases hx with rfl | rfl <;> rcases hy with rfl | rfl
    all_goals
      exact ⟨_, _, _, _, _, _, _, _, _, _, rfl, rfl, rfl, rfl, rfl, by decide, by decide, by decide, Or.inr ⟨rfl, by decide, rfl, rfl, by decide, by decide⟩⟩
  | false =>
    rw [r1, hb, e1, e2]
    refine ⟨0, 102, 1, 0, c, g, m, h, i, j, rfl, by decide, rfl, rfl, hq, by decide, fc, fm, Or.inl ⟨rfl, ?_⟩⟩
    have hb' : ¬ ((x = 0 ∨ x = 1) ∧ (y = 0 ∨ y = 1)) := by
      intro hh
      have : bits01 x y = true := by simpa [bits01] using hh
      rw [hb] at this
      cases this
    rcases d1 with ⟨h1, h2, _⟩ | ⟨h1, _⟩
    · rcases d2 with ⟨_, h4, _⟩ | ⟨h3, _⟩
      · exact absurd ⟨h2, h4⟩ hb'
      · exact Or.inr ⟨h1, h3⟩
    · exact Or.inl h1

set_option maxRecDepth 100000 in
set_option maxHeartbeats 8000000 in
theorem numberLogic_any (x y : Int) (a d : Addr) (w : World) (hx : fits x = true) (hy : fits y = true) (hL : Laid10 a d w) :
    Calls Tryd.prog 7 #[.int .i64 x, .int .i64 y] w fun r w' => r = .returned (.bool true) ∧ Below w.heap.size w w' := by
  obtain ⟨p, e, b, f, c, g, m, h, i, j, e1, e2, e3, e4, e5, fp, fc, fm, hc⟩ := logic_facts x y
  have S0 := Lib.hid (shown_any a d w hL)
  have D1 := Lib.hid (fun u hu => dy_is gAnd (short _ (by decide)) x y p e a d u hx hy hu e1)
  have D2 := Lib.hid (fun u hu => mon_is gNot (short _ (by decide)) p b f a d u fp hu e2)
  have D3 := Lib.hid (fun u hu => mon_is gNot (short _ (by decide)) x c g a d u hx hu e3)
  have D4 := Lib.hid (fun u hu => mon_is gNot (short _ (by decide)) y m h a d u hy hu e4)
  have D5 := Lib.hid (fun u hu => dy_is gOr (short _ (by decide)) c m i j a d u fc fm hu e5)
  clear e1 e2 e3 e4 e5 fp fc fm hx hy hL
  rcases hc with ⟨rfl, rfl | ⟨rfl, rfl⟩⟩ | ⟨rfl, rfl, rfl, rfl, rfl, rfl⟩
  all_goals
    have q1 : (i == i) = true := by simp
    go_enter Tryd.func7, Tryd.ntmps7
    go_wp2_with fail
    refine S0.out.mono ?_
    rintro r w0 ⟨rfl, h0, b0⟩
    have H0 := Lib.hid h0
    have B0 := Lib.hid b0
    clear h0 b0
    go_wp2_with fail
    refine (D1.out w0 H0.out).mono ?_
    rintro r w1 ⟨rfl, h1, b1⟩
    have H1 := Lib.hid h1
    have B1 := Lib.hid (B0.out.trans (b1.mono B0.out.size))
    clear h1 b1
    go_wp2_with fail
    refine (D2.out w1 H1.out).mono ?_
    rintro r w2 ⟨rfl, h2, b2⟩
    have H2 := Lib.hid h2
    have B2 := Lib.hid (B1.out.trans (b2.mono B1.out.size))
    clear h2 b2
    go_wp2_with fail
    refine (D3.out w2 H2.out).mono ?_
    rintro r w3 ⟨rfl, h3, b3⟩
    have H3 := Lib.hid h3
    have B3 := Lib.hid (B2.out.trans (b3.mono B2.out.size))
    clear h3 b3
    go_wp2_with fail
    refine (D4.out w3 H3.out).mono ?_
    rintro r w4 ⟨rfl, h4, b4⟩
    have H4 := Lib.hid h4
    have B4 := Lib.hid (B3.out.trans (b4.mono B3.out.size))
    clear h4 b4
    go_wp2_with fail
    refine (D5.out w4 H4.out).mono ?_
    rintro r w5 ⟨rfl, h5, b5⟩
    have H5 := Lib.hid h5
    have B5 := Lib.hid (B4.out.trans (b5.mono B4.out.size))
    clear h5 b5
    go_wp2_with fail
    all_goals go_ret
    all_goals exact ⟨rfl, B5.out⟩
end Go.Proofs.YtkghmcfbhojbaaaDoor
