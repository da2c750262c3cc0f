/-
  The functions of two of layer 10, each by what it tells in plain numbers.
-/
import Derived.Test.YtkghmcfbhojbaaaDoorProg
import Derived.Test.YtkghmcfbhojbaaaDoorReg
import Derived.WalkKit
import Derived.WalkSpells
import Derived.WalkLawsBesides
import Derived.Lib.Hide
import Derived.Lib.MinMax
import Derived.Deep.QuietTactic
import Derived.BigQuiet
import Derived.OwnWalk
import Derived.Deep.AppendLies
import Derived.KernelRfl
import Derived.Test.YtkghmcfbhojbaaaDoorNumN
import Derived.Test.YtkghmcfbhojbaaaDoorNumE
import Derived.Test.YtkghmcfbhojbaaaDoorNumJ
set_option linter.unusedSimpArgs false
set_option linter.unusedVariables false
namespace Go.Proofs.YtkghmcfbhojbaaaDoor
open Go.RowKit

theorem prod_signed (x y : Int) : x * y = if (decide (x < 0) != decide (y < 0)) = true then -((x.natAbs * y.natAbs : Nat) : Int) else ((x.natAbs * y.natAbs : Nat) : Int) := by
  obtain ⟨a, ha⟩ : ∃ a, x.natAbs = a := ⟨_, rfl⟩
  obtain ⟨b, hb⟩ : ∃ b, y.natAbs = b := ⟨_, rfl⟩
  rw [ha, hb]
  by_cases h1 : x < 0 <;> by_cases h2 : y < 0
  · obtain rfl : x = -(a : Int) := by omega
    obtain rfl : y = -(b : Int) := by omega
    have e1 : 0 < a := by omega
    have e2 : 0 < b := by omega
    simp [e1, e2, Int.neg_mul_neg]
  · obtain rfl : x = -(a : Int) := by omega
    obtain rfl : y = (b : Int) := by omega
    have e1 : a ≠ 0 := by omega
    simp [h1, h2, e1, Int.neg_mul]
  · obtain rfl : x = (a : Int) := by omega
    obtain rfl : y = -(b : Int) := by omega
    have e1 : b ≠ 0 := by omega
    simp [h1, h2, e1, Int.mul_neg]
  · obtain rfl : x = (a : Int) := by omega
    obtain rfl : y = (b : Int) := by omega
    simp [h1, h2]

theorem times_any (x y : Int) (a d : Addr) (g : ByteArray) (w : World) (hx : fits x = true) (hy : fits y = true) (hg : OverAt a w) :
    Calls Tryd.prog 33 #[.agg #[.int .i64 x, .int .i64 y]] w fun r w' => r = .returned (.tuple #[.int .i64 (orOver (x * y)).1, errV a d g (orOver (x * y)).2]) ∧ Below w.heap.size w w' := by
  rw [fits_iff] at hx hy
  refine (times_walk x y a _ _ w hx.1 hx.2 hy.1 hy.2 rfl rfl hg).mono fun r w' ⟨h1, h2⟩ => ⟨h1.trans ?_, h2⟩
  have hp := prod_signed x y
  obtain ⟨N, hN⟩ : ∃ N, x.natAbs * y.natAbs = N := ⟨_, rfl⟩
  obtain ⟨neg, hneg⟩ : ∃ q, (decide (x < 0) != decide (y < 0)) = q := ⟨_, rfl⟩
  rw [hN, hneg] at hp
  rw [hN, hneg]
  generalize x * y = p at hp
  congr 1
  refine must_over a d g p _ _ ?_ ?_
  · rw [Bool.eq_iff_iff, fits_iff]
    cases neg <;> simp at hp ⊢ <;> omega
  · rw [fits_iff]
    intro h
    cases neg <;> simp [signed, wrap64] at hp ⊢ <;> omega

theorem add_out (x y : Int) (a d : Addr) (g : ByteArray) (w : World) (hx : fits x = true) (hy : fits y = true) (hg : OverAt a w) :
    Calls Tryd.prog 31 #[.agg #[.int .i64 x, .int .i64 y]] w fun r w' => r = .returned (.tuple #[.int .i64 (orOver (x + y)).1, errV a d g (orOver (x + y)).2]) ∧ Below w.heap.size w w' :=
  (add_any x y a w hg).mono fun r w' ⟨h1, h2⟩ => ⟨by rw [h1, must_over a d g _ _ _ (ok_add x y hx hy).1 (ok_add x y hx hy).2], h2⟩

theorem take_out (x y : Int) (a d : Addr) (g : ByteArray) (w : World) (hx : fits x = true) (hy : fits y = true) (hg : OverAt a w) :
    Calls Tryd.prog 32 #[.agg #[.int .i64 x, .int .i64 y]] w fun r w' => r = .returned (.tuple #[.int .i64 (orOver (x - y)).1, errV a d g (orOver (x - y)).2]) ∧ Below w.heap.size w w' :=
  (take_any x y a w hg).mono fun r w' ⟨h1, h2⟩ => ⟨by rw [h1, must_over a d g _ _ _ (ok_take x y hx hy).1 (ok_take x y hx hy).2], h2⟩

theorem tdiv_fits (x y : Int) (hx : fits x = true) (hy : fits y = true) (h0 : y ≠ 0) (h1 : y ≠ -1) : IntKind.i64.wrap (x.tdiv y) = x.tdiv y := by
  rw [fits_iff] at hx hy
  have e : (x.tdiv y).natAbs = x.natAbs / y.natAbs := Int.natAbs_tdiv x y
  have hq : x.natAbs / y.natAbs ≤ x.natAbs := Nat.div_le_self _ _
  have h2 : 9223372036854775808 ≤ x.natAbs / y.natAbs → y.natAbs = 1 := by
    intro h
    have h3 : x.natAbs / y.natAbs * y.natAbs ≤ x.natAbs := Nat.div_mul_le_self _ _
    rcases Nat.lt_or_ge y.natAbs 2 with h4 | h4
    · omega
    · have h5 : x.natAbs / y.natAbs * 2 ≤ x.natAbs / y.natAbs * y.natAbs := Nat.mul_le_mul_left _ h4
      omega
  have h6 : y = 1 → x.tdiv y = x := by rintro rfl; simp
  rw [wrap_i64]
  unfold wrap64
  generalize x.tdiv y = q at e h6
  generalize x.natAbs / y.natAbs = k at e hq h2
  by_cases hy1 : y = 1
  · have := h6 hy1
    omega
  · have : k < 9223372036854775808 := by
      rcases Nat.lt_or_ge k 9223372036854775808 with h | h
      · exact h
      · have := h2 h
        omega
    omega

theorem divide_out (x y : Int) (a d : Addr) (g : ByteArray) (w : World) (hx : fits x = true) (hy : fits y = true) (hg : OverAt a w) (hd : DivideAt d w) :
    Calls Tryd.prog 34 #[.agg #[.int .i64 x, .int .i64 y]] w fun r w' => r = .returned (.tuple #[.int .i64 (divOut x y).1, errV a d g (divOut x y).2]) ∧ Below w.heap.size w w' :=
  (divide_any x y a d w hg hd).mono fun r w' ⟨h1, h2⟩ => ⟨by
    rw [h1]
    unfold divOut
    by_cases h0 : y = 0
    · by_cases hx0 : x = 0 <;> simp [h0, hx0, mustOut, errV]
    · by_cases h3 : y = -1
      · simp only [h0, h3, if_false, if_true]
        have := fits_iff.1 hx
        rw [must_over a d g (-x) _ _ (by rw [Bool.eq_iff_iff, fits_iff]; simp; omega) (by rw [fits_iff, wrap_i64]; intro h; unfold wrap64; omega)]
        simp
      · by_cases h4 : x.tmod y = 0
        · simp [h0, h3, h4, mustOut, errV, tdiv_fits x y hx hy h0 h3]
        · simp [h0, h3, h4, mustOut, errV], h2⟩

theorem or_bits (x y : Int) (h : bits01 x y = true) : bits .or .i64 x y = max x y := by
  simp only [bits01, Bool.and_eq_true, decide_eq_true_eq] at h
  rcases h with ⟨rfl | rfl, rfl | rfl⟩ <;> decide
theorem and_bits (x y : Int) (h : bits01 x y = true) : bits .and .i64 x y = min x y := by
  simp only [bits01, Bool.and_eq_true, decide_eq_true_eq] at h
  rcases h with ⟨rfl | rfl, rfl | rfl⟩ <;> decide

def isCmp (g : ByteArray) : Prop := g = gEq ∨ g = gNe ∨ g = gLt ∨ g = gGt ∨ g = gLe ∨ g = gGe
def isLog (g : ByteArray) : Prop := g = gAnd ∨ g = gOr

theorem compare_any (g : ByteArray) (hg : isCmp g) (x y : Int) (w : World) :
    Calls Tryd.prog 39 #[.agg #[.int .i64 x, .int .i64 y], .string g] w fun r w' => r = .returned (.tuple #[.int .i64 (cmpOut g x y), .nilIface]) ∧ Below w.heap.size w w' := by
  rcases hg with rfl | rfl | rfl | rfl | rfl | rfl
  · exact compare_eq x y w
  · exact compare_ne x y w
  · exact compare_lt x y w
  · exact compare_gt x y w
  · exact compare_le x y w
  · exact compare_ge x y w

theorem logic_any (g : ByteArray) (hg : isLog g) (x y : Int) (a d : Addr) (w : World) :
    Calls Tryd.prog 41 #[.agg #[.int .i64 x, .int .i64 y], .string g] w fun r w' => r = .returned (.tuple #[.int .i64 (logOut g x y).1, errV a d g (logOut g x y).2]) ∧ Below w.heap.size w w' := by
  rcases hg with rfl | rfl
  · refine (logic_and x y w).mono fun r w' ⟨h1, h2⟩ => ⟨h1.trans ?_, h2⟩
    unfold logOut
    cases hb : bits01 x y with
    | true => rw [and_bits x y hb]; unfold bits01 at hb; rw [hb]; simp [mustOut, errV]
    | false => unfold bits01 at hb; rw [hb]; simp [mustOut, errV]
  · refine (logic_or x y w).mono fun r w' ⟨h1, h2⟩ => ⟨h1.trans ?_, h2⟩
    have hne : gOr ≠ gAnd := by decide
    unfold logOut
    cases hb : bits01 x y with
    | true => rw [or_bits x y hb]; unfold bits01 at hb; rw [hb]; simp [mustOut, errV, hne]
    | false => unfold bits01 at hb; rw [hb]; simp [mustOut, errV]

set_option maxRecDepth 100000 in
set_option maxHeartbeats 4000000 in
theorem clos_cmp (g : ByteArray) (hg : isCmp g) (x y : Int) (p : Addr) (w : World) (hp : w.cell? p = some (.string g)) :
    Calls Tryd.prog 38 #[.agg #[.int .i64 x, .int .i64 y], .pointer (some p)] w fun r w' => r = .returned (.tuple #[.int .i64 (cmpOut g x y), .nilIface]) ∧ Below w.heap.size w w' := by
  have hlt := cell_lt hp
  go_enter Tryd.func38, Tryd.ntmps38
  go_wp2_with fail
  refine (compare_any g hg x y _).mono ?_
  rintro r w' ⟨rfl, hb⟩
  go_wp2_with fail
  go_ret2
  exact ⟨rfl, ((Below.refl _ _).alloc (Nat.le_refl _) _).trans (hb.mono (by simp))⟩

set_option maxRecDepth 100000 in
set_option maxHeartbeats 4000000 in
theorem clos_log (g : ByteArray) (hg : isLog g) (x y : Int) (p a d : Addr) (w : World) (hp : w.cell? p = some (.string g)) :
    Calls Tryd.prog 40 #[.agg #[.int .i64 x, .int .i64 y], .pointer (some p)] w fun r w' => r = .returned (.tuple #[.int .i64 (logOut g x y).1, errV a d g (logOut g x y).2]) ∧ Below w.heap.size w w' := by
  have hlt := cell_lt hp
  go_enter Tryd.func40, Tryd.ntmps40
  go_wp2_with fail
  refine (logic_any g hg x y a d _).mono ?_
  rintro r w' ⟨rfl, hb⟩
  go_wp2_with fail
  go_ret2
  exact ⟨rfl, ((Below.refl _ _).alloc (Nat.le_refl _) _).trans (hb.mono (by simp))⟩
end Go.Proofs.YtkghmcfbhojbaaaDoor
