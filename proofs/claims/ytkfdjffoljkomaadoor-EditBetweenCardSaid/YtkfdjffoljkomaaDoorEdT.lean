/-
  Walk: the edit between two texts, by the program.
-/
import Derived.Test.YtkfdjffoljkomaaDoorProg
import Derived.Test.YtkfdjffoljkomaaDoorReg
import Derived.WalkKit
import Derived.WalkSpells
import Derived.WalkLawsBesides
import Derived.Lib.Hide
import Derived.Lib.MinMax
import Derived.Deep.QuietTactic
import Derived.BigQuiet
import Derived.OwnWalk
import Derived.Deep.AppendLies
import Derived.KernelRfl
import Derived.Test.YtkfdjffoljkomaaDoorEdS
set_option linter.unusedSimpArgs false
set_option linter.unusedVariables false
namespace Go.Proofs.YtkfdjffoljkomaaDoor
open Go.RowKit

set_option maxRecDepth 100000 in
set_option maxHeartbeats 2000000 in
theorem between_any (s t : ByteArray) (w : World) (hs : s.size ≤ 1000000) (ht : t.size ≤ 1000000) :
    Calls Tryd.prog 16 #[.string s, .string t] w fun e w' => ∃ A c, e = .returned (.slice A (between s t).length c) ∧ Holds w' A (between s t) ∧ (between s t).length ≤ c ∧ Below w.heap.size w w' := by
  by_cases he : s = t
  · have hq := bytes_beq_yes he
    have hb : between s t = [] := by simp [between, he]
    have Hb := Lib.hid hb
    clear he hb
    go_enter Tryd.func16, Tryd.ntmps16
    go_wp2
    go_ret
    rw [Hb.out]
    exact ⟨none, 0, rfl, Holds.nil _ _, Nat.le_refl _, Below.refl _ _⟩
  · have hq := bytes_beq_no he
    have hb : between s t = [edge s t] := by simp [between, he]
    have hf := front_le s t
    have hr := behind_le s t
    have hA := same1_any s t w hs ht
    have hB := fun n => same2_any (rest s (front s t)) (rest t (front s t)) (w.drewN n) (by rw [rest_size]; omega) (by rw [rest_size]; omega)
    have He : Hid (edge s t = ⟨front s t, (s.size : Int) - behind s t - front s t, t.extract (front s t) (t.size - behind s t)⟩) := Lib.hid rfl
    unfold behind at He hr
    unfold rest at hB He hr
    generalize front s t = a at *
    generalize rear (s.extract a s.size) (t.extract a t.size) = r at *
    have HA := Lib.hid hA
    have HB := Lib.hid hB
    have Hb := Lib.hid hb
    clear he hb hA hB
    obtain ⟨f1, f2⟩ := hf
    obtain ⟨r1, r2⟩ := hr
    have q1 : (0 : Int) ≤ (a : Int) := by omega
    have q2 : (a : Int) ≤ (s.size : Int) := by omega
    have q3 : (a : Int) ≤ (t.size : Int) := by omega
    have q4 : (r : Int) ≤ (t.size : Int) - (a : Int) := by omega
    have q5 : (r : Int) ≤ (s.size : Int) - (a : Int) := by omega
    go_enter Tryd.func16, Tryd.ntmps16
    go_wp2_with (go_at_call 28; refine HA.out.mono ?_; rintro e w' ⟨rfl, rfl⟩)
    go_quiet ((go_at_call 28; exact quiet_eq (HB.out _)))
    go_wp2
    go_ret
    rw [Hb.out, He.out]
    exact ⟨_, _, rfl, (holds_one w ⟨a, (s.size : Int) - r - a, t.extract a (t.size - r)⟩ 35).drewN _, Nat.le_refl _, below_drewN ((Below.refl _ _).alloc (Nat.le_refl _) _) _⟩
end Go.Proofs.YtkfdjffoljkomaaDoor
