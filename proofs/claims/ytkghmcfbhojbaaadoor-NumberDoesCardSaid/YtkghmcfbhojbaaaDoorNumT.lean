/-
  Three results are known: shown.
-/
import Derived.Test.YtkghmcfbhojbaaaDoorProg
import Derived.Test.YtkghmcfbhojbaaaDoorReg
import Derived.WalkKit
import Derived.WalkSpells
import Derived.WalkLawsBesides
import Derived.Lib.Hide
import Derived.Lib.MinMax
import Derived.Deep.QuietTactic
import Derived.BigQuiet
import Derived.OwnWalk
import Derived.Deep.AppendLies
import Derived.KernelRfl
import Derived.Test.YtkghmcfbhojbaaaDoorNumS
set_option linter.unusedSimpArgs false
set_option linter.unusedVariables false
namespace Go.Proofs.YtkghmcfbhojbaaaDoor
open Go.RowKit

theorem dy_is (g : ByteArray) (hg : g.size ≤ maxLen) (x y n c : Int) (a d : Addr) (w : World) (hx : fits x = true) (hy : fits y = true) (h : Laid10 a d w) (e : dyOut g x y = (n, c)) :
    Calls Tryd.prog 10 #[.string g, .int .i64 x, .int .i64 y] w fun r w' => r = .returned (.tuple #[.int .i64 n, .int .i64 c]) ∧ Laid10 a d w' ∧ Below w.heap.size w w' :=
  (dy_any g hg x y a d w hx hy h).mono fun r w' ⟨h1, h2⟩ => ⟨by rw [h1, e], h.below h2, h2⟩
theorem mon_is (g : ByteArray) (hg : g.size ≤ maxLen) (y n c : Int) (a d : Addr) (w : World) (hy : fits y = true) (h : Laid10 a d w) (e : monOut g y = (n, c)) :
    Calls Tryd.prog 11 #[.string g, .int .i64 y] w fun r w' => r = .returned (.tuple #[.int .i64 n, .int .i64 c]) ∧ Laid10 a d w' ∧ Below w.heap.size w w' :=
  (mon_any g hg y a d w hy h).mono fun r w' ⟨h1, h2⟩ => ⟨by rw [h1, e], h.below h2, h2⟩
theorem isDy_is (g : ByteArray) (hg : g.size ≤ maxLen) (b : Bool) (w : World) (e : isDyG g ↔ b = true) :
    Calls Tryd.prog 16 #[.string g] w fun r w' => r = .returned (.bool b) ∧ Below w.heap.size w w' := by
  haveI : Decidable (isDyG g) := decidable_of_iff _ e.symm
  refine (isDy_any g hg w).mono fun r w' ⟨h1, h2⟩ => ⟨?_, h2⟩
  rw [h1]
  cases b <;> simp [e]
theorem isMon_is (g : ByteArray) (hg : g.size ≤ maxLen) (b : Bool) (w : World) (e : isMonG g ↔ b = true) :
    Calls Tryd.prog 18 #[.string g] w fun r w' => r = .returned (.bool b) ∧ Below w.heap.size w w' := by
  haveI : Decidable (isMonG g) := decidable_of_iff _ e.symm
  refine (isMon_any g hg w).mono fun r w' ⟨h1, h2⟩ => ⟨?_, h2⟩
  rw [h1]
  cases b <;> simp [e]

theorem short (g : ByteArray) (h : g.size ≤ 20) : g.size ≤ maxLen := by unfold maxLen; omega

theorem orOver_fits (n : Int) : fits (orOver n).1 = true := by
  unfold orOver
  cases h : fits n with
  | true => simp [h]
  | false => simp [fits]

set_option maxRecDepth 100000 in
set_option maxHeartbeats 4000000 in
theorem shown_any (a d : Addr) (w : World) (h : Laid10 a d w) :
    Calls Tryd.prog 9 #[] w fun r w' => r = .returned (.bool true) ∧ Laid10 a d w' ∧ Below w.heap.size w w' := by
  have D := Lib.hid (dy_is · · · · · · a d)
  have M := Lib.hid (mon_is · · · · · a d)
  have I := Lib.hid isDy_is
  have J := Lib.hid isMon_is
  have H := Lib.hid h
  clear h
  go_enter Tryd.func9, Tryd.ntmps9
  go_wp2_with fail
  refine (D.out gDiv (short _ (by decide)) 7 2 0 101 w (by decide) (by decide) H.out (by decide +kernel)).mono ?_
  rintro r w1 ⟨rfl, h1, b1⟩
  have H1 := Lib.hid h1
  have B1 := Lib.hid b1
  clear h1 b1
  go_wp2_with fail
  refine (D.out gRes (short _ (by decide)) 3 (-1) 2 0 w1 (by decide) (by decide) H1.out (by decide +kernel)).mono ?_
  rintro r w2 ⟨rfl, h2, b2⟩
  have H2 := Lib.hid h2
  have B2 := Lib.hid (B1.out.trans (b2.mono B1.out.size))
  clear h2 b2
  go_wp2_with fail
  refine (D.out gRes (short _ (by decide)) (-3) 1 (-2) 0 w2 (by decide) (by decide) H2.out (by decide +kernel)).mono ?_
  rintro r w3 ⟨rfl, h3, b3⟩
  have H3 := Lib.hid h3
  have B3 := Lib.hid (B2.out.trans (b3.mono B2.out.size))
  clear h3 b3
  go_wp2_with fail
  refine (D.out gAdd (short _ (by decide)) 9223372036854775807 1 0 100 w3 (by decide) (by decide) H3.out (by decide +kernel)).mono ?_
  rintro r w4 ⟨rfl, h4, b4⟩
  have H4 := Lib.hid h4
  have B4 := Lib.hid (B3.out.trans (b4.mono B3.out.size))
  clear h4 b4
  go_wp2_with fail
  refine (M.out gNot (short _ (by decide)) 0 1 0 w4 (by decide) H4.out (by decide +kernel)).mono ?_
  rintro r w5 ⟨rfl, h5, b5⟩
  have H5 := Lib.hid h5
  have B5 := Lib.hid (B4.out.trans (b5.mono B4.out.size))
  clear h5 b5
  go_wp2_with fail
  refine (I.out gAnd (short _ (by decide)) true w5 (by simp [isDyG, isLog])).mono ?_
  rintro r w6 ⟨rfl, b6⟩
  have H6 := Lib.hid (H5.out.below b6)
  have B6 := Lib.hid (B5.out.trans (b6.mono B5.out.size))
  clear b6
  go_wp2_with fail
  refine (J.out gEq (short _ (by decide)) false w6 (by unfold isMonG; simp; decide)).mono ?_
  rintro r w7 ⟨rfl, b7⟩
  have H7 := Lib.hid (H6.out.below b7)
  have B7 := Lib.hid (B6.out.trans (b7.mono B6.out.size))
  clear b7
  go_wp2_with fail
  go_ret
  exact ⟨rfl, H7.out, B7.out⟩
end Go.Proofs.YtkghmcfbhojbaaaDoor
