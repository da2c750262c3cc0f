/-
  Walk: is an edit known.
-/
import Derived.Test.YtkfdjffoljkomaaDoorProg
import Derived.Test.YtkfdjffoljkomaaDoorReg
import Derived.WalkKit
import Derived.WalkSpells
import Derived.WalkLawsBesides
import Derived.Lib.Hide
import Derived.Lib.MinMax
import Derived.Deep.QuietTactic
import Derived.BigQuiet
import Derived.OwnWalk
import Derived.Deep.AppendLies
import Derived.KernelRfl
import Derived.Test.YtkfdjffoljkomaaDoorEdD
import Derived.Test.YtkfdjffoljkomaaDoorEdH
import Derived.Test.YtkfdjffoljkomaaDoorEdL
import Derived.Test.YtkfdjffoljkomaaDoorEdT
set_option linter.unusedSimpArgs false
set_option linter.unusedVariables false
namespace Go.Proofs.YtkfdjffoljkomaaDoor
open Go.RowKit

/-- The error 'no edit' lies where the program has laid it. -/
def ErrAt (b : Addr) (w : World) : Prop := w.cell? ⟨0, 0, none⟩ = some (.iface 92 (.pointer (some b)))
theorem ErrAt.below {b : Addr} {w w' : World} (h : ErrAt b w) (hb : Below w.heap.size w w') : ErrAt b w' := (hb.cell (p := ⟨0, 0, none⟩) (cell_lt h)).trans h

def tAbcd : ByteArray := ⟨#[97, 98, 99, 100]⟩
def tAxd : ByteArray := ⟨#[97, 120, 100]⟩
def tAb : ByteArray := ⟨#[97, 98]⟩
def edA : Ed := ⟨1, 2, ⟨#[120]⟩⟩
def edB : Ed := ⟨1, 1, ⟨#[98, 99]⟩⟩
def edC : Ed := ⟨1, 2, ByteArray.empty⟩

theorem k_between : between tAbcd tAxd = [edA] := by decide +kernel
theorem k_right : right tAbcd.size 0 [edA] = true := by decide +kernel
theorem k_applied : applied tAbcd [edA] = tAxd := by decide +kernel
theorem k_back : backL tAbcd 0 [edA] = [edB] := by decide +kernel
theorem k_wrong : right tAb.size 0 [edC] = false := by decide +kernel
theorem k_moved : (3 : Int) + moved 3 [edA] = 2 := by decide +kernel

theorem mild_one {x : Ed} (h : x.mild) : mild [x] := ⟨by simp, fun k y hk => by cases k with | zero => (simp at hk; subst hk; exact h) | succ k => simp at hk⟩
theorem mild_edA : mild [edA] := mild_one (by unfold Ed.mild; decide)
theorem mild_edC : mild [edC] := mild_one (by unfold Ed.mild; decide)

set_option maxRecDepth 100000 in
set_option maxHeartbeats 4000000 in
theorem shown_any (b : Addr) (w : World) (hg : ErrAt b w) :
    Calls Tryd.prog 9 #[] w fun e w' => e = .returned (.bool true) ∧ Below w.heap.size w w' := by
  have hA := between_any tAbcd tAxd w (by decide) (by decide)
  rw [k_between] at hA
  have HA := Lib.hid hA
  have Hg := Lib.hid hg
  clear hA hg
  go_enter Tryd.func9, Tryd.ntmps9
  go_wp2_with fail
  refine HA.out.mono ?_
  rintro e w1 ⟨A, c, rfl, hH1, hc1, hb1⟩
  have hB := apply_any tAbcd A c [edA] b w1 (by decide) mild_edA hc1 hH1 (Hg.out.below hb1)
  rw [applyOut_yes k_right, k_applied] at hB
  have HB := Lib.hid hB
  clear hB
  go_wp2_with fail
  refine HB.out.mono ?_
  rintro e w2 ⟨rfl, hb2⟩
  have hC := back_any tAbcd A c [edA] b w2 (by decide) mild_edA (hH1.below hb2) ((Hg.out.below hb1).below hb2)
  have HC := Lib.hid hC
  clear hC
  go_wp2_with fail
  refine HC.out.mono ?_
  rintro e w3 ⟨ho, hb3⟩
  rw [backOut_yes k_right, k_back] at ho
  obtain ⟨B, d, rfl, hH2, _⟩ := ho
  go_wp2_with fail
  have hD := apply_any tAb _ 1 [edC] b _ (by decide) mild_edC (Nat.le_refl _) (holds_one w3 edC 35) (((((Hg.out.below hb1).below hb2).below hb3)).below ((Below.refl _ _).alloc (Nat.le_refl _) _))
  rw [applyOut_no k_wrong] at hD
  refine hD.mono ?_
  rintro e w4 ⟨rfl, hb4⟩
  have hb34 : Below w3.heap.size w3 w4 := ((Below.refl _ _).alloc (Nat.le_refl _) _).trans (hb4.mono (by simp))
  have hA4 := ((hH1.below hb2).below hb3).below hb34
  have hB4 := hH2.below hb34
  obtain ⟨a0, f0, rfl, c1, c2, c3⟩ := hA4 0 edA rfl
  obtain ⟨a1, f1, rfl, e1, e2, e3⟩ := hB4 0 edB rfl
  simp only [Nat.zero_mul, Nat.add_zero] at c1 c2 c3 e1 e2 e3
  have q1 : ∀ W, (binOp .eql 35 (.agg #[.int .i64 1, .int .i64 2, .string { data := #[120] }]) (.agg #[.int .i64 1, .int .i64 2, .string { data := #[120] }])).run Tryd.prog W = .ok (.bool true) W := fun W => (run_eql_ed edA edA W).trans (by simp)
  have q2 : ∀ W, (binOp .eql 35 (.agg #[.int .i64 1, .int .i64 1, .string { data := #[98, 99] }]) (.agg #[.int .i64 1, .int .i64 1, .string { data := #[98, 99] }])).run Tryd.prog W = .ok (.bool true) W := fun W => (run_eql_ed edB edB W).trans (by simp)
  have hE := moved_any _ c [edA] 3 w4 mild_edA (by decide) (by decide) hA4
  rw [k_moved] at hE
  have HE := Lib.hid hE
  have Hfin := Lib.hid (((hb1.trans (hb2.mono hb1.size)).trans (hb3.mono (hb1.trans (hb2.mono hb1.size)).size)).trans (hb34.mono ((hb1.trans (hb2.mono hb1.size)).trans (hb3.mono (hb1.trans (hb2.mono hb1.size)).size)).size))
  clear hE hD hb1 hb2 hb3 hb4 hb34 hA4 hB4 hH1 hH2 HA HB HC
  change w4.cell? _ = some (.int .i64 1) at c1
  change w4.cell? _ = some (.int .i64 2) at c2
  change w4.cell? _ = some (.string { data := #[120] }) at c3
  change w4.cell? _ = some (.int .i64 1) at e1
  change w4.cell? _ = some (.int .i64 1) at e2
  change w4.cell? _ = some (.string { data := #[98, 99] }) at e3
  unfold tAxd
  go_wp2_with fail
  refine HE.out.mono ?_
  rintro e w5 ⟨rfl, hb5⟩
  go_wp2_with fail
  go_ret
  exact ⟨rfl, Hfin.out.trans (hb5.mono Hfin.out.size)⟩
end Go.Proofs.YtkfdjffoljkomaaDoor
