/-
  The statement NumberOrders.
-/
import Derived.Test.YtkghmcfbhojbaaaDoorProg
import Derived.Test.YtkghmcfbhojbaaaDoorReg
import Derived.WalkKit
import Derived.WalkSpells
import Derived.WalkLawsBesides
import Derived.Lib.Hide
import Derived.Lib.MinMax
import Derived.Deep.QuietTactic
import Derived.BigQuiet
import Derived.OwnWalk
import Derived.Deep.AppendLies
import Derived.KernelRfl
import Derived.Test.YtkghmcfbhojbaaaDoorNumT
set_option linter.unusedSimpArgs false
set_option linter.unusedVariables false
namespace Go.Proofs.YtkghmcfbhojbaaaDoor
open Go.RowKit

theorem cmp_is (g : ByteArray) (hg : isCmp g) (x y : Int) : dyOut g x y = (cmpOut g x y, 0) := by rcases hg with rfl | rfl | rfl | rfl | rfl | rfl <;> rfl


set_option maxRecDepth 100000 in
set_option maxHeartbeats 8000000 in
theorem numberOrders_any (x y : Int) (a d : Addr) (w : World) (hx : fits x = true) (hy : fits y = true) (hL : Laid10 a d w) :
    Calls Tryd.prog 5 #[.int .i64 x, .int .i64 y] w fun r w' => r = .returned (.bool true) ∧ Below w.heap.size w w' := by
  have S0 := Lib.hid (shown_any a d w hL)
  have D1 := Lib.hid (fun u hu => dy_is gLt (short _ (by decide)) x y (bit (decide (x < y))) 0 a d u hx hy hu rfl)
  have D2 := Lib.hid (fun u hu => dy_is gEq (short _ (by decide)) x y (bit (decide (x = y))) 0 a d u hx hy hu rfl)
  have D3 := Lib.hid (fun u hu => dy_is gGt (short _ (by decide)) x y (bit (decide (y < x))) 0 a d u hx hy hu rfl)
  have D4 := Lib.hid (fun u hu => dy_is gLe (short _ (by decide)) x y (bit (decide (x ≤ y))) 0 a d u hx hy hu rfl)
  have D5 := Lib.hid (fun u hu => dy_is gGe (short _ (by decide)) x y (bit (decide (y ≤ x))) 0 a d u hx hy hu rfl)
  have D6 := Lib.hid (fun u hu => dy_is gNe (short _ (by decide)) x y (bit (decide (x ≠ y))) 0 a d u hx hy hu rfl)
  have D7 := Lib.hid (fun u hu => dy_is gHi (short _ (by decide)) x y (max x y) 0 a d u hx hy hu rfl)
  have D8 := Lib.hid (fun u hu => dy_is gLo (short _ (by decide)) x y (min x y) 0 a d u hx hy hu rfl)
  clear hx hy hL
  rcases Int.lt_trichotomy x y with h | h | h
  · have q : (y == x) = false := by simp; omega
    have q2 : (x == y) = false := by simp; omega
    have q3 : (y == y) = true := by simp
    have q4 : (x == x) = true := by simp
    have n1 : bit (decide (x < y)) = 1 := by simp [bit, h]
    have n2 : bit (decide (x = y)) = 0 := by simp [bit]; omega
    have n3 : bit (decide (y < x)) = 0 := by simp [bit]; omega
    have n4 : bit (decide (x ≤ y)) = 1 := by simp [bit]; omega
    have n5 : bit (decide (y ≤ x)) = 0 := by simp [bit]; omega
    have n6 : bit (decide (x ≠ y)) = 1 := by simp [bit]; omega
    have n7 : max x y = y := by omega
    have n8 : min x y = x := by omega
    rw [n1] at D1
    rw [n2] at D2
    rw [n3] at D3
    rw [n4] at D4
    rw [n5] at D5
    rw [n6] at D6
    rw [n7] at D7
    rw [n8] at D8
    clear n1 n2 n3 n4 n5 n6 n7 n8 h
    go_enter Tryd.func5, Tryd.ntmps5
    go_wp2_with fail
    refine S0.out.mono ?_
    rintro r w0 ⟨rfl, h0, b0⟩
    have H0 := Lib.hid h0
    have B0 := Lib.hid b0
    clear h0 b0
    go_wp2_with fail
    refine (D1.out w0 H0.out).mono ?_
    rintro r w1 ⟨rfl, h1, b1⟩
    have H1 := Lib.hid h1
    have B1 := Lib.hid (B0.out.trans (b1.mono B0.out.size))
    clear h1 b1
    go_wp2_with fail
    refine (D2.out w1 H1.out).mono ?_
    rintro r w2 ⟨rfl, h2, b2⟩
    have H2 := Lib.hid h2
    have B2 := Lib.hid (B1.out.trans (b2.mono B1.out.size))
    clear h2 b2
    go_wp2_with fail
    refine (D3.out w2 H2.out).mono ?_
    rintro r w3 ⟨rfl, h3, b3⟩
    have H3 := Lib.hid h3
    have B3 := Lib.hid (B2.out.trans (b3.mono B2.out.size))
    clear h3 b3
    go_wp2_with fail
    refine (D4.out w3 H3.out).mono ?_
    rintro r w4 ⟨rfl, h4, b4⟩
    have H4 := Lib.hid h4
    have B4 := Lib.hid (B3.out.trans (b4.mono B3.out.size))
    clear h4 b4
    go_wp2_with fail
    refine (D5.out w4 H4.out).mono ?_
    rintro r w5 ⟨rfl, h5, b5⟩
    have H5 := Lib.hid h5
    have B5 := Lib.hid (B4.out.trans (b5.mono B4.out.size))
    clear h5 b5
    go_wp2_with fail
    refine (D6.out w5 H5.out).mono ?_
    rintro r w6 ⟨rfl, h6, b6⟩
    have H6 := Lib.hid h6
    have B6 := Lib.hid (B5.out.trans (b6.mono B5.out.size))
    clear h6 b6
    go_wp2_with fail
    refine (D7.out w6 H6.out).mono ?_
    rintro r w7 ⟨rfl, h7, b7⟩
    have H7 := Lib.hid h7
    have B7 := Lib.hid (B6.out.trans (b7.mono B6.out.size))
    clear h7 b7
    go_wp2_with fail
    refine (D8.out w7 H7.out).mono ?_
    rintro r w8 ⟨rfl, h8, b8⟩
    have H8 := Lib.hid h8
    have B8 := Lib.hid (B7.out.trans (b8.mono B7.out.size))
    clear h8 b8
    go_wp2_with fail
    all_goals go_ret
    all_goals exact ⟨rfl, B8.out⟩
  · subst h
    have q3 : (x == x) = true := by simp
    have n1 : bit (decide (x < x)) = 0 := by simp [bit]
    have n2 : bit (decide (x = x)) = 1 := by simp [bit]
    have n4 : bit (decide (x ≤ x)) = 1 := by simp [bit]
    have n6 : bit (decide (x ≠ x)) = 0 := by simp [bit]
    have n7 : max x x = x := by omega
    have n8 : min x x = x := by omega
    rw [n1] at D1 D3
    rw [n2] at D2
    rw [n4] at D4 D5
    rw [n6] at D6
    rw [n7] at D7
    rw [n8] at D8
    clear n1 n2 n4 n6 n7 n8
    go_enter Tryd.func5, Tryd.ntmps5
    go_wp2_with fail
    refine S0.out.mono ?_
    rintro r w0 ⟨rfl, h0, b0⟩
    have H0 := Lib.hid h0
    have B0 := Lib.hid b0
    clear h0 b0
    go_wp2_with fail
    refine (D1.out w0 H0.out).mono ?_
    rintro r w1 ⟨rfl, h1, b1⟩
    have H1 := Lib.hid h1
    have B1 := Lib.hid (B0.out.trans (b1.mono B0.out.size))
    clear h1 b1
    go_wp2_with fail
    refine (D2.out w1 H1.out).mono ?_
    rintro r w2 ⟨rfl, h2, b2⟩
    have H2 := Lib.hid h2
    have B2 := Lib.hid (B1.out.trans (b2.mono B1.out.size))
    clear h2 b2
    go_wp2_with fail
    refine (D3.out w2 H2.out).mono ?_
    rintro r w3 ⟨rfl, h3, b3⟩
    have H3 := Lib.hid h3
    have B3 := Lib.hid (B2.out.trans (b3.mono B2.out.size))
    clear h3 b3
    go_wp2_with fail
    refine (D4.out w3 H3.out).mono ?_
    rintro r w4 ⟨rfl, h4, b4⟩
    have H4 := Lib.hid h4
    have B4 := Lib.hid (B3.out.trans (b4.mono B3.out.size))
    clear h4 b4
    go_wp2_with fail
    refine (D5.out w4 H4.out).mono ?_
    rintro r w5 ⟨rfl, h5, b5⟩
    have H5 := Lib.hid h5
    have B5 := Lib.hid (B4.out.trans (b5.mono B4.out.size))
    clear h5 b5
    go_wp2_with fail
    refine (D6.out w5 H5.out).mono ?_
    rintro r w6 ⟨rfl, h6, b6⟩
    have H6 := Lib.hid h6
    have B6 := Lib.hid (B5.out.trans (b6.mono B5.out.size))
    clear h6 b6
    go_wp2_with fail
    refine (D7.out w6 H6.out).mono ?_
    rintro r w7 ⟨rfl, h7, b7⟩
    have H7 := Lib.hid h7
    have B7 := Lib.hid (B6.out.trans (b7.mono B6.out.size))
    clear h7 b7
    go_wp2_with fail
    refine (D8.out w7 H7.out).mono ?_
    rintro r w8 ⟨rfl, h8, b8⟩
    have H8 := Lib.hid h8
    have B8 := Lib.hid (B7.out.trans (b8.mono B7.out.size))
    clear h8 b8
    go_wp2_with fail
    all_goals go_ret
    all_goals exact ⟨rfl, B8.out⟩
  · have q : (y == x) = false := by simp; omega
    have q2 : (x == y) = false := by simp; omega
    have q3 : (y == y) = true := by simp
    have q4 : (x == x) = true := by simp
    have n1 : bit (decide (x < y)) = 0 := by simp [bit]; omega
    have n2 : bit (decide (x = y)) = 0 := by simp [bit]; omega
    have n3 : bit (decide (y < x)) = 1 := by simp [bit, h]
    have n4 : bit (decide (x ≤ y)) = 0 := by simp [bit]; omega
    have n5 : bit (decide (y ≤ x)) = 1 := by simp [bit]; omega
    have n6 : bit (decide (x ≠ y)) = 1 := by simp [bit]; omega
    have n7 : max x y = x := by omega
    have n8 : min x y = y := by omega
    rw [n1] at D1
    rw [n2] at D2
    rw [n3] at D3
    rw [n4] at D4
    rw [n5] at D5
    rw [n6] at D6
    rw [n7] at D7
    rw [n8] at D8
    clear n1 n2 n3 n4 n5 n6 n7 n8 h
    go_enter Tryd.func5, Tryd.ntmps5
    go_wp2_with fail
    refine S0.out.mono ?_
    rintro r w0 ⟨rfl, h0, b0⟩
    have H0 := Lib.hid h0
    have B0 := Lib.hid b0
    clear h0 b0
    go_wp2_with fail
    refine (D1.out w0 H0.out).mono ?_
    rintro r w1 ⟨rfl, h1, b1⟩
    have H1 := Lib.hid h1
    have B1 := Lib.hid (B0.out.trans (b1.mono B0.out.size))
    clear h1 b1
    go_wp2_with fail
    refine (D2.out w1 H1.out).mono ?_
    rintro r w2 ⟨rfl, h2, b2⟩
    have H2 := Lib.hid h2
    have B2 := Lib.hid (B1.out.trans (b2.mono B1.out.size))
    clear h2 b2
    go_wp2_with fail
    refine (D3.out w2 H2.out).mono ?_
    rintro r w3 ⟨rfl, h3, b3⟩
    have H3 := Lib.hid h3
    have B3 := Lib.hid (B2.out.trans (b3.mono B2.out.size))
    clear h3 b3
    go_wp2_with fail
    refine (D4.out w3 H3.out).mono ?_
    rintro r w4 ⟨rfl, h4, b4⟩
    have H4 := Lib.hid h4
    have B4 := Lib.hid (B3.out.trans (b4.mono B3.out.size))
    clear h4 b4
    go_wp2_with fail
    refine (D5.out w4 H4.out).mono ?_
    rintro r w5 ⟨rfl, h5, b5⟩
    have H5 := Lib.hid h5
    have B5 := Lib.hid (B4.out.trans (b5.mono B4.out.size))
    clear h5 b5
    go_wp2_with fail
    refine (D6.out w5 H5.out).mono ?_
    rintro r w6 ⟨rfl, h6, b6⟩
    have H6 := Lib.hid h6
    have B6 := Lib.hid (B5.out.trans (b6.mono B5.out.size))
    clear h6 b6
    go_wp2_with fail
    refine (D7.out w6 H6.out).mono ?_
    rintro r w7 ⟨rfl, h7, b7⟩
    have H7 := Lib.hid h7
    have B7 := Lib.hid (B6.out.trans (b7.mono B6.out.size))
    clear h7 b7
    go_wp2_with fail
    refine (D8.out w7 H7.out).mono ?_
    rintro r w8 ⟨rfl, h8, b8⟩
    have H8 := Lib.hid h8
    have B8 := Lib.hid (B7.out.trans (b8.mono B7.out.size))
    clear h8 b8
    go_wp2_with fail
    all_goals go_ret
    all_goals exact ⟨rfl, B8.out⟩
end Go.Proofs.YtkghmcfbhojbaaaDoor
