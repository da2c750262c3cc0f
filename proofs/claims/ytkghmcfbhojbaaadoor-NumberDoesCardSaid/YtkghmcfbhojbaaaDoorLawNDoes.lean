/-
  The statement NumberDoes.
-/
import Derived.Test.YtkghmcfbhojbaaaDoorProg
import Derived.Test.YtkghmcfbhojbaaaDoorReg
import Derived.WalkKit
import Derived.WalkSpells
import Derived.WalkLawsBesides
import Derived.Lib.Hide
import Derived.Lib.MinMax
import Derived.Deep.QuietTactic
import Derived.BigQuiet
import Derived.OwnWalk
import Derived.Deep.AppendLies
import Derived.KernelRfl
import Derived.Test.YtkghmcfbhojbaaaDoorNumY
set_option linter.unusedSimpArgs false
set_option linter.unusedVariables false
namespace Go.Proofs.YtkghmcfbhojbaaaDoor
open Go.RowKit

set_option maxRecDepth 100000 in
set_option maxHeartbeats 8000000 in
theorem numberDoes_any (s : ByteArray) (x y : Int) (a d : Addr) (w : World) (hs : s.size ≤ maxLen) (hx : fits x = true) (hy : fits y = true) (hL : Laid10 a d w) :
    Calls Tryd.prog 8 #[.string s, .int .i64 x, .int .i64 y] w fun r w' => r = .returned (.bool true) ∧ Below w.heap.size w w' := by
  unfold maxLen at hs
  have S0 := Lib.hid (shown_any a d w hL)
  obtain ⟨S, hS⟩ : ∃ S, S = s.extract 0 (min (s.size : Int) 20).toNat := ⟨_, rfl⟩
  have hz : S.size ≤ 20 := by
    rw [hS]
    simp
    omega
  obtain ⟨⟨n, c⟩, e1⟩ : ∃ p, dyOut S x y = p := ⟨_, rfl⟩
  obtain ⟨⟨m, f⟩, e2⟩ : ∃ p, monOut S y = p := ⟨_, rfl⟩
  obtain ⟨⟨u, ok⟩, e3⟩ : ∃ p, unitOut S = p := ⟨_, rfl⟩
  haveI := Classical.propDecidable (isDyG S)
  haveI := Classical.propDecidable (isMonG S)
  obtain ⟨p, e4⟩ : ∃ p, decide (isDyG S) = p := ⟨_, rfl⟩
  obtain ⟨q, e5⟩ : ∃ p, decide (isMonG S) = p := ⟨_, rfl⟩
  have f4 : isDyG S ↔ p = true := by rw [← e4]; simp
  have f5 : isMonG S ↔ q = true := by rw [← e5]; simp
  have D1 := Lib.hid (fun u hu => dy_is S (short _ hz) x y n c a d u hx hy hu e1)
  have D2 := Lib.hid (fun (u : World) (hu : Laid10 a d u) => (rdy_any S x y u hx hy).mono fun r w' ⟨h1, h2⟩ => (⟨by rw [h1, e1], hu.below h2, h2⟩ : r = Ending.returned (.tuple #[.int .i64 n, .int .i64 c]) ∧ Laid10 a d w' ∧ Below u.heap.size u w'))
  have D3 := Lib.hid (fun u hu => mon_is S (short _ hz) y m f a d u hy hu e2)
  have D4 := Lib.hid (fun (u : World) (hu : Laid10 a d u) => (rmon_any S y u hy).mono fun r w' ⟨h1, h2⟩ => (⟨by rw [h1, e2], hu.below h2, h2⟩ : r = Ending.returned (.tuple #[.int .i64 m, .int .i64 f]) ∧ Laid10 a d w' ∧ Below u.heap.size u w'))
  have D5 := Lib.hid (fun (v : World) (hu : Laid10 a d v) => (unit_any S (short _ hz) v).mono fun r w' ⟨h1, h2⟩ => (⟨by rw [h1, e3], hu.below h2, h2⟩ : r = Ending.returned (.tuple #[.int .i64 u, .bool ok]) ∧ Laid10 a d w' ∧ Below v.heap.size v w'))
  have D6 := Lib.hid (fun (v : World) (hu : Laid10 a d v) => (rUnit_any S v).mono fun r w' ⟨h1, h2⟩ => (⟨by rw [h1, e3], by rw [h2]; exact hu, by rw [h2]; exact Below.refl _ _⟩ : r = Ending.returned (.tuple #[.int .i64 u, .bool ok]) ∧ Laid10 a d w' ∧ Below v.heap.size v w'))
  have D7 := Lib.hid (fun (v : World) (hu : Laid10 a d v) => (isDy_is S (short _ hz) p v f4).mono fun r w' ⟨h1, h2⟩ => (⟨h1, hu.below h2, h2⟩ : r = Ending.returned (.bool p) ∧ Laid10 a d w' ∧ Below v.heap.size v w'))
  have D8 := Lib.hid (fun (v : World) (hu : Laid10 a d v) => (rIsDy_is S p v f4).mono fun r w' ⟨h1, h2⟩ => (⟨h1, hu.below h2, h2⟩ : r = Ending.returned (.bool p) ∧ Laid10 a d w' ∧ Below v.heap.size v w'))
  have D9 := Lib.hid (fun (v : World) (hu : Laid10 a d v) => (isMon_is S (short _ hz) q v f5).mono fun r w' ⟨h1, h2⟩ => (⟨h1, hu.below h2, h2⟩ : r = Ending.returned (.bool q) ∧ Laid10 a d w' ∧ Below v.heap.size v w'))
  have D10 := Lib.hid (fun (v : World) (hu : Laid10 a d v) => (rIsMon_is S q v f5).mono fun r w' ⟨h1, h2⟩ => (⟨h1, hu.below h2, h2⟩ : r = Ending.returned (.bool q) ∧ Laid10 a d w' ∧ Below v.heap.size v w'))
  have t1 : (n == n) = true := by simp
  have t2 : (c == c) = true := by simp
  have t3 : (m == m) = true := by simp
  have t4 : (f == f) = true := by simp
  have t5 : (u == u) = true := by simp
  have t6 : (ok == ok) = true := by simp
  have t7 : (p == p) = true := by simp
  have t8 : (q == q) = true := by simp
  clear e1 e2 e3 e4 e5 f4 f5 hz hx hy hL
  go_enter Tryd.func8, Tryd.ntmps8
  go_wp2_with fail
  refine S0.out.mono ?_
  rintro r w0 ⟨rfl, h0, b0⟩
  have H0 := Lib.hid h0
  have B0 := Lib.hid b0
  clear h0 b0
  go_wp2_with fail
  rw [← hS]
  clear hS
  refine (D1.out w0 H0.out).mono ?_
  rintro r w1 ⟨rfl, h1, b1⟩
  have H1 := Lib.hid h1
  have B1 := Lib.hid (B0.out.trans (b1.mono B0.out.size))
  clear h1 b1
  go_wp2_with fail
  refine (D2.out w1 H1.out).mono ?_
  rintro r w2 ⟨rfl, h2, b2⟩
  have H2 := Lib.hid h2
  have B2 := Lib.hid (B1.out.trans (b2.mono B1.out.size))
  clear h2 b2
  go_wp2_with fail
  refine (D3.out w2 H2.out).mono ?_
  rintro r w3 ⟨rfl, h3, b3⟩
  have H3 := Lib.hid h3
  have B3 := Lib.hid (B2.out.trans (b3.mono B2.out.size))
  clear h3 b3
  go_wp2_with fail
  refine (D4.out w3 H3.out).mono ?_
  rintro r w4 ⟨rfl, h4, b4⟩
  have H4 := Lib.hid h4
  have B4 := Lib.hid (B3.out.trans (b4.mono B3.out.size))
  clear h4 b4
  go_wp2_with fail
  refine (D5.out w4 H4.out).mono ?_
  rintro r w5 ⟨rfl, h5, b5⟩
  have H5 := Lib.hid h5
  have B5 := Lib.hid (B4.out.trans (b5.mono B4.out.size))
  clear h5 b5
  go_wp2_with fail
  refine (D6.out w5 H5.out).mono ?_
  rintro r w6 ⟨rfl, h6, b6⟩
  have H6 := Lib.hid h6
  have B6 := Lib.hid (B5.out.trans (b6.mono B5.out.size))
  clear h6 b6
  go_wp2_with fail
  refine (D7.out w6 H6.out).mono ?_
  rintro r w7 ⟨rfl, h7, b7⟩
  have H7 := Lib.hid h7
  have B7 := Lib.hid (B6.out.trans (b7.mono B6.out.size))
  clear h7 b7
  go_wp2_with fail
  refine (D8.out w7 H7.out).mono ?_
  rintro r w8 ⟨rfl, h8, b8⟩
  have H8 := Lib.hid h8
  have B8 := Lib.hid (B7.out.trans (b8.mono B7.out.size))
  clear h8 b8
  go_wp2_with fail
  refine (D9.out w8 H8.out).mono ?_
  rintro r w9 ⟨rfl, h9, b9⟩
  have H9 := Lib.hid h9
  have B9 := Lib.hid (B8.out.trans (b9.mono B8.out.size))
  clear h9 b9
  go_wp2_with fail
  refine (D10.out w9 H9.out).mono ?_
  rintro r w10 ⟨rfl, h10, b10⟩
  have H10 := Lib.hid h10
  have B10 := Lib.hid (B9.out.trans (b10.mono B9.out.size))
  clear h10 b10
  go_wp2_with fail
  all_goals go_ret
  all_goals exact ⟨rfl, B10.out⟩
end Go.Proofs.YtkghmcfbhojbaaaDoor
