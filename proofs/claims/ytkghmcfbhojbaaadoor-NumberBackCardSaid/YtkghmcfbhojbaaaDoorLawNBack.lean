/-
  The statement NumberBack.
-/
import Derived.Test.YtkghmcfbhojbaaaDoorProg
import Derived.Test.YtkghmcfbhojbaaaDoorReg
import Derived.WalkKit
import Derived.WalkSpells
import Derived.WalkLawsBesides
import Derived.Lib.Hide
import Derived.Lib.MinMax
import Derived.Deep.QuietTactic
import Derived.BigQuiet
import Derived.OwnWalk
import Derived.Deep.AppendLies
import Derived.KernelRfl
import Derived.Test.YtkghmcfbhojbaaaDoorNumT
set_option linter.unusedSimpArgs false
set_option linter.unusedVariables false
namespace Go.Proofs.YtkghmcfbhojbaaaDoor
open Go.RowKit

/-- What the four calls tell. -/
theorem back_facts (x y : Int) (hx : fits x = true) (hy : fits y = true) : ∃ s e t f p g q h,
    dyOut gAdd x y = (s, e) ∧ dyOut gTake s y = (t, f) ∧ dyOut gTimes x y = (p, g) ∧ dyOut gDiv p y = (q, h) ∧ fits s = true ∧ fits p = true ∧
      (e = 100 ∨ e = 0 ∧ f = 0 ∧ t = x) ∧ (g = 100 ∨ g = 0 ∧ y = 0 ∨ g = 0 ∧ y ≠ 0 ∧ h = 0 ∧ q = x) := by
  refine ⟨(orOver (x + y)).1, (orOver (x + y)).2, (dyOut gTake (orOver (x + y)).1 y).1, (dyOut gTake (orOver (x + y)).1 y).2, (orOver (x * y)).1, (orOver (x * y)).2, (dyOut gDiv (orOver (x * y)).1 y).1, (dyOut gDiv (orOver (x * y)).1 y).2, rfl, rfl, rfl, rfl, orOver_fits _, orOver_fits _, ?_, ?_⟩
  · cases h : fits (x + y) with
    | false => left; simp [orOver, h]
    | true =>
      right
      have e1 : orOver (x + y) = (x + y, 0) := by simp [orOver, h]
      have e2 : dyOut gTake (x + y) y = orOver (x + y - y) := rfl
      have e3 : x + y - y = x := by omega
      have e4 : orOver x = (x, 0) := by simp [orOver, hx]
      rw [e1]
      simp [e2, e3, e4]
  · cases h : fits (x * y) with
    | false => left; simp [orOver, h]
    | true =>
      right
      have e1 : orOver (x * y) = (x * y, 0) := by simp [orOver, h]
      rw [e1]
      by_cases h0 : y = 0
      · exact Or.inl ⟨rfl, h0⟩
      · refine Or.inr ⟨rfl, h0, ?_⟩
        have e2 : dyOut gDiv (x * y) y = divOut (x * y) y := rfl
        have e4 : (x * y).tdiv y = x := Int.mul_tdiv_cancel x h0
        have e5 : (x * y).tmod y = 0 := Int.mul_tmod_left x y
        simp only [e2]
        unfold divOut
        by_cases h1 : y = -1
        · subst h1
          have e6 : -(x * -1) = x := by omega
          simp [orOver, hx]
        · simp [h0, h1, e4, e5]

set_option maxRecDepth 100000 in
set_option maxHeartbeats 8000000 in
theorem numberBack_any (x y : Int) (a d : Addr) (w : World) (hx : fits x = true) (hy : fits y = true) (hL : Laid10 a d w) :
    Calls Tryd.prog 3 #[.int .i64 x, .int .i64 y] w fun r w' => r = .returned (.bool true) ∧ Below w.heap.size w w' := by
  obtain ⟨s, e, t, f, p, g, q, h, e1, e2, e3, e4, fs, fp, c1, c2⟩ := back_facts x y hx hy
  have S0 := Lib.hid (shown_any a d w hL)
  have D1 := Lib.hid (fun u hu => dy_is gAdd (short _ (by decide)) x y s e a d u hx hy hu e1)
  have D2 := Lib.hid (fun u hu => dy_is gTake (short _ (by decide)) s y t f a d u fs hy hu e2)
  have D3 := Lib.hid (fun u hu => dy_is gTimes (short _ (by decide)) x y p g a d u hx hy hu e3)
  have D4 := Lib.hid (fun u hu => dy_is gDiv (short _ (by decide)) p y q h a d u fp hy hu e4)
  have bx : (x == x) = true := by simp
  clear e1 e2 e3 e4 fs fp hx hy hL
  rcases c1 with rfl | ⟨rfl, rfl, rfl⟩ <;> rcases c2 with rfl | ⟨rfl, rfl⟩ | ⟨rfl, hy0, rfl, rfl⟩
  all_goals
    try have hy1 : (y == 0) = false := by simpa using hy0
    try clear hy0
    go_enter Tryd.func3, Tryd.ntmps3
    go_wp2_with fail
    refine S0.out.mono ?_
    rintro r w0 ⟨rfl, h0, b0⟩
    have H0 := Lib.hid h0
    have B0 := Lib.hid b0
    clear h0 b0
    go_wp2_with fail
    refine (D1.out w0 H0.out).mono ?_
    rintro r w1 ⟨rfl, h1, b1⟩
    have H1 := Lib.hid h1
    have B1 := Lib.hid (B0.out.trans (b1.mono B0.out.size))
    clear h1 b1
    go_wp2_with fail
    refine (D2.out w1 H1.out).mono ?_
    rintro r w2 ⟨rfl, h2, b2⟩
    have H2 := Lib.hid h2
    have B2 := Lib.hid (B1.out.trans (b2.mono B1.out.size))
    clear h2 b2
    go_wp2_with fail
    refine (D3.out w2 H2.out).mono ?_
    rintro r w3 ⟨rfl, h3, b3⟩
    have H3 := Lib.hid h3
    have B3 := Lib.hid (B2.out.trans (b3.mono B2.out.size))
    clear h3 b3
    go_wp2_with fail
    refine (D4.out w3 H3.out).mono ?_
    rintro r w4 ⟨rfl, h4, b4⟩
    have B4 := Lib.hid (B3.out.trans (b4.mono B3.out.size))
    clear h4 b4
    go_wp2_with fail
    go_ret
    exact ⟨rfl, B4.out⟩
end Go.Proofs.YtkghmcfbhojbaaaDoor
