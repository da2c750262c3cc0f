/-
  What the statements of layer 5 show: by the program.
-/
import Derived.Test.YtflpihedhccdfaaGreatDoorProg
import Derived.Test.YtflpihedhccdfaaGreatDoorReg
import Derived.WalkKit
import Derived.WalkSpells
import Derived.WalkLawsBesides
import Derived.Lib.Hide
import Derived.Lib.MinMax
import Derived.Deep.QuietTactic
import Derived.BigQuiet
import Derived.OwnWalk
import Derived.Deep.AppendLies
import Derived.KernelRfl
import Derived.Test.YtflpihedhccdfaaGreatDoorRxJ
set_option linter.unusedSimpArgs false
set_option linter.unusedVariables false
namespace Go.Proofs.YtflpihedhccdfaaGreatDoor
open Go Go.RowKit

def shT : ByteArray := ⟨#[97, 10, 98, 99, 100, 10, 101]⟩
def shS : ByteArray := ⟨#[10, 49]⟩
def shU : ByteArray := ⟨#[97, 10, 98, 10, 49, 10, 101]⟩
theorem sh1 : (piecesB shT).length = 3 ∧ (piecesB shU).length = 4 ∧ (piecesB shU)[2]? = some ⟨#[49]⟩ ∧ dLine ⟨#[49]⟩ = [⟨3, ⟨#[49]⟩, ⟨#[49]⟩⟩] := by decide +kernel
theorem sh2 : textS shT 3 2 shS = shU ∧ (doneS shT 3 2 shS).fro = 1 ∧ (doneS shT 3 2 shS).old = 1 ∧ (doneS shT 3 2 shS).new = 2 ∧ errS shT 3 2 shS = 0 := by decide +kernel
theorem sh3 : textS shU 9 0 ⟨#[]⟩ = shU ∧ doneS shU 9 0 ⟨#[]⟩ = noChg ∧ errS shU 9 0 ⟨#[]⟩ = 10 := by decide +kernel

set_option maxRecDepth 100000 in
set_option maxHeartbeats 8000000 in
theorem shown_any (a d : Addr) (w : World) (hT : Tabs w) (hL : Laid5 a d w) :
    Calls Tryz.prog 9 #[] w fun e w' => e = .returned (.bool true) ∧ Below w.heap.size w w' := by
  have H1 : Hid (Calls Tryz.prog 11 #[.string ⟨#[97, 10, 98, 99, 100, 10, 101]⟩] w fun e w' => e = .returned (.tuple #[.pointer (some ⟨w.heap.size, 0, none⟩), .int .i64 0]) ∧ IsLexB w' w.heap.size w.heap.size shT 3 ∧ Below w.heap.size w w') :=
    Lib.hid ((New_any shT w (by decide) hT).mono fun e w' ⟨h1, h2, h3⟩ => ⟨h1, by rw [sh1.1] at h2; exact h2.lex, h3⟩)
  have H2 : Hid (∀ W, Below w.heap.size w W → IsLexB W w.heap.size w.heap.size shT 3 → Calls Tryz.prog 12 #[.pointer (some ⟨w.heap.size, 0, none⟩), .int .i64 3, .int .i64 2, .string ⟨#[10, 49]⟩] W fun e w' =>
      e = .returned (.tuple #[.agg #[.int .i64 1, .int .i64 1, .int .i64 2], .int .i64 0]) ∧ IsLexB w' w.heap.size w.heap.size shU 5 ∧ Below w.heap.size w w' ∧ W.heap.size ≤ w'.heap.size ∧ OthersL W w') := Lib.hid fun W hb hx =>
    (Splice_low w.heap.size w.heap.size w.heap.size shT 3 3 2 shS a d w W hx (by decide) (by decide) (by decide) (by decide) (hT.below hb) (hL.below hb) hb (Nat.le_refl _) (Nat.le_refl _) hb.size).mono fun e w' ⟨h1, h2, h3⟩ => by
      obtain ⟨k1, k2, k3, k4, k5⟩ := sh2
      refine ⟨?_, ?_, h3⟩
      · rw [h1, k5]
        unfold Chg.val
        rw [k2, k3, k4]
        rfl
      · rw [k1, k4] at h2
        exact h2
  have H3 : Hid (∀ W, Below w.heap.size w W → IsLexB W w.heap.size w.heap.size shU 5 → Calls Tryz.prog 12 #[.pointer (some ⟨w.heap.size, 0, none⟩), .int .i64 9, .int .i64 0, .string ⟨#[]⟩] W fun e w' =>
      e = .returned (.tuple #[.agg #[.int .i64 0, .int .i64 0, .int .i64 0], .int .i64 10]) ∧ Below W.heap.size W w') := Lib.hid fun W hb hx => by
    obtain ⟨v, ls, hx⟩ := hx
    exact Splice_range w.heap.size shU 5 9 0 ⟨#[]⟩ a d W hx.is (by decide) (hL.below hb) (by decide) (by decide)
  have H4 : Hid (∀ W, IsLexB W w.heap.size w.heap.size shU 5 → Calls Tryz.prog 17 #[.pointer (some ⟨w.heap.size, 0, none⟩), .int .i64 2] W fun e w' => ∃ A c, e = .returned (.slice A 1 c) ∧ HoldsT w' A [⟨3, ⟨#[49]⟩, ⟨#[49]⟩⟩] ∧ Below W.heap.size W w') := Lib.hid fun W hx =>
    (Line_in w.heap.size shU ⟨#[49]⟩ 5 2 W hx.is (by decide) sh1.2.2.1).mono fun e w' ⟨v, h1, h2, h3⟩ => by
      rw [sh1.2.2.2] at h2
      obtain ⟨A, c, rfl, -, hH, -⟩ := holdsT_of_own h2
      exact ⟨A, c, h1, hH, h3⟩
  have H5 : Hid (∀ W, IsLexB W w.heap.size w.heap.size shU 5 → Calls Tryz.prog 15 #[.pointer (some ⟨w.heap.size, 0, none⟩)] W fun e w' => e = .returned (.int .i64 4) ∧ w' = W) := Lib.hid fun W hx =>
    (Lines_any w.heap.size shU 5 W hx.is (by decide)).mono fun e w' ⟨h1, h2⟩ => ⟨by rw [h1, sh1.2.1]; rfl, h2⟩
  have H6 : Hid (∀ W, IsLexB W w.heap.size w.heap.size shU 5 → Calls Tryz.prog 14 #[.pointer (some ⟨w.heap.size, 0, none⟩)] W fun e w' => e = .returned (.int .i64 5) ∧ w' = W) := Lib.hid fun W hx =>
    Lexed_any w.heap.size shU 5 W hx.is (by decide)
  have H7 : Hid (∀ W, IsLexB W w.heap.size w.heap.size shU 5 → Calls Tryz.prog 13 #[.pointer (some ⟨w.heap.size, 0, none⟩)] W fun e w' => e = .returned (.string ⟨#[97, 10, 98, 10, 49, 10, 101]⟩) ∧ Below W.heap.size W w') := Lib.hid fun W hx =>
    Text_lex w.heap.size shU 5 W hx.is (by decide)
  clear hT hL
  go_enter Tryz.func9, Tryz.ntmps9
  go_wp2_with fail
  refine H1.out.mono ?_
  rintro e w1 ⟨rfl, hx1, hb1⟩
  have S1 := Lib.hid (H2.out w1 hb1 hx1)
  have hs1 := hb1.size
  clear H1 H2 hx1 hb1
  go_wp2_with fail
  refine S1.out.mono ?_
  rintro e w2 ⟨rfl, hx2, hb2, hz2, -⟩
  have hbA := below_new w2 (.cells #[.int .i64 1, .int .i64 1, .int .i64 2] 29)
  have hx3 := hx2.below hbA
  have hb3 := hb2.trans (hbA.mono hb2.size)
  have hr3 := heap_alloc_new w2 (.cells #[.int .i64 1, .int .i64 1, .int .i64 2] 29)
  have hz3 : (w2.alloc (.cells #[.int .i64 1, .int .i64 1, .int .i64 2] 29)).heap.size = w2.heap.size + 1 := by simp
  have S2 := Lib.hid (H4.out _ hx3)
  have HX3 := Lib.hid hx3
  have HB3 := Lib.hid hb3
  have HR3 := Lib.hid hr3
  have HZ3 := Lib.hid hz3
  have hs2 := hb2.size
  clear S1 hx2 hb2 hbA hx3 hb3 hr3 hz3 hz2 H4
  go_wp2_with fail
  refine S2.out.mono ?_
  rintro e w4 ⟨A4, c4, rfl, hH4, hb4⟩
  have hx4 := HX3.out.below hb4
  have hB4 := HB3.out.trans (hb4.mono HB3.out.size)
  have hr4 := (hb4.block w2.heap.size (by rw [HZ3.out]; omega)).trans HR3.out
  have hs4 : w2.heap.size + 1 ≤ w4.heap.size := by have := hb4.size; rw [HZ3.out] at this; exact this
  have S3 := Lib.hid (H3.out w4 hB4 hx4)
  have HX4 := Lib.hid hx4
  have HB4 := Lib.hid hB4
  have HR4 := Lib.hid hr4
  have HH4 := Lib.hid hH4
  clear S2 hx4 hB4 hr4 hb4 HX3 HB3 HR3 HZ3 H3 hH4
  go_wp2_with fail
  refine S3.out.mono ?_
  rintro e w5 ⟨rfl, hb5⟩
  have hbA := below_new w5 (.cells #[.int .i64 0, .int .i64 0, .int .i64 0] 29)
  have hb6 := hb5.trans (hbA.mono hb5.size)
  have hx6 := HX4.out.below hb6
  have hB6 := HB4.out.trans (hb6.mono HB4.out.size)
  have hr6 := (hb6.block w2.heap.size (by omega)).trans HR4.out
  have hH6 := HH4.out.below hb6
  have hs5 := hb5.size
  obtain ⟨W6, hW6⟩ : ∃ W6, w5.alloc (.cells #[.int .i64 0, .int .i64 0, .int .i64 0] 29) = W6 := ⟨_, rfl⟩
  rw [hW6] at hx6 hB6 hr6 hH6
  obtain ⟨b6, off6, rfl, e0, e1, e2⟩ := hH6 0 _ rfl
  rw [Nat.zero_mul, Nat.add_zero] at e0 e1 e2
  have x0 : W6.cell? ⟨w2.heap.size, 0, none⟩ = some (.int .i64 1) := by simp [World.cell?, hr6]
  have x1 : W6.cell? ⟨w2.heap.size, 1, none⟩ = some (.int .i64 1) := by simp [World.cell?, hr6]
  have x2 : W6.cell? ⟨w2.heap.size, 2, none⟩ = some (.int .i64 2) := by simp [World.cell?, hr6]
  have S4 := Lib.hid (H5.out W6 hx6)
  have S5 := Lib.hid (H6.out W6 hx6)
  have S6 := Lib.hid (H7.out W6 hx6)
  have HB6 := Lib.hid hB6
  have HW6 := Lib.hid hW6
  clear hx6 hB6 hr6 hH6 hbA hb5 hb6 H5 H6 H7 S3 HX4 HB4 HR4 HH4 hW6
  go_upto_region 5 with fail
  rw [HW6.out]
  clear HW6
  go_wp2_with fail
  refine S4.out.mono ?_
  rintro e w7 ⟨rfl, rfl⟩
  go_wp2_with fail
  refine S5.out.mono ?_
  rintro e w8 ⟨rfl, rfl⟩
  go_wp2_with fail
  refine S6.out.mono ?_
  rintro e w9 ⟨rfl, hb9⟩
  have B9 := Lib.hid (HB6.out.trans (hb9.mono HB6.out.size))
  clear hb9
  go_wp2_with fail
  go_ret
  exact ⟨rfl, B9.out⟩
end Go.Proofs.YtflpihedhccdfaaGreatDoor
