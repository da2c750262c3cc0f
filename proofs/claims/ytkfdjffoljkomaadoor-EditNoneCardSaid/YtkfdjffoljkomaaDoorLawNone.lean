/-
  The walk of the statement EditNone.
-/
import Derived.Test.YtkfdjffoljkomaaDoorProg
import Derived.Test.YtkfdjffoljkomaaDoorReg
import Derived.WalkKit
import Derived.WalkSpells
import Derived.WalkLawsBesides
import Derived.Lib.Hide
import Derived.Lib.MinMax
import Derived.Deep.QuietTactic
import Derived.BigQuiet
import Derived.OwnWalk
import Derived.Deep.AppendLies
import Derived.KernelRfl
import Derived.Test.YtkfdjffoljkomaaDoorEdJ
import Derived.Test.YtkfdjffoljkomaaDoorEdV
namespace Go.Proofs.YtkfdjffoljkomaaDoor
open Go.RowKit

theorem applied_nil (s : ByteArray) : applied s [] = s := by
  apply ByteArray.ext
  simp [applied, applyL]
theorem right_put (s t : ByteArray) : right s.size 0 [⟨s.size, 0, t⟩] = true := by simp [right]
theorem applied_put (s t : ByteArray) : applied s [⟨s.size, 0, t⟩] = s ++ t := by
  have h : s.data.toList.length = s.size := bytes_len s
  apply ByteArray.ext
  apply Array.ext'
  simp [applied, applyL, List.take_of_length_le (Nat.le_of_eq h), List.drop_of_length_le (Nat.le_of_eq h)]
theorem right_all (s t : ByteArray) : right s.size 0 [⟨0, s.size, t⟩] = true := by simp [right]
theorem applied_all (s t : ByteArray) : applied s [⟨0, s.size, t⟩] = t := by
  have h : s.data.toList.length = s.size := bytes_len s
  apply ByteArray.ext
  apply Array.ext'
  simp [applied, applyL, List.drop_of_length_le (Nat.le_of_eq h)]
theorem between_self (s : ByteArray) : between s s = [] := by simp [between]

set_option maxRecDepth 100000 in
set_option maxHeartbeats 4000000 in
theorem editNone_any (s t : ByteArray) (b : Addr) (w : World) (hs : s.size ≤ maxLen) (ht : t.size ≤ maxLen) (hg : ErrAt b w) :
    Calls Tryd.prog 4 #[.string s, .string t] w fun e w' => e = .returned (.bool true) ∧ Below w.heap.size w w' := by
  have HS := Lib.hid (shown_any b w hg)
  have Hg := Lib.hid hg
  clear hg
  go_enter Tryd.func4, Tryd.ntmps4
  go_wp2_with fail
  refine HS.out.mono ?_
  rintro e w1 ⟨rfl, hb1⟩
  go_wp2_with fail
  refine (show Calls _ _ _ _ fun e w' => e = .returned (.string (cut s)) ∧ w1 = w' from cut_any s w1 hs).mono ?_
  rintro e w1' ⟨rfl, rfl⟩
  have hcs := cut_small s
  generalize cut s = S at *
  go_wp2_with fail
  refine (show Calls _ _ _ _ fun e w' => e = .returned (.string (cut t)) ∧ w1 = w' from cut_any t w1 ht).mono ?_
  rintro e w1' ⟨rfl, rfl⟩
  have hct := cut_small t
  generalize cut t = T at *
  clear HS
  have hg1 := Hg.out.below hb1
  go_wp2_with fail
  have hB := apply_any S none 0 [] b w1 (by omega) ⟨by simp, fun k x hx => by simp at hx⟩ (Nat.le_refl _) (Holds.nil _ _) hg1
  rw [applyOut_yes rfl, applied_nil] at hB
  refine hB.mono ?_
  rintro e w2 ⟨rfl, hb2⟩
  have hg2 := hg1.below hb2
  have b12 : Below w.heap.size w w2 := hb1.trans (hb2.mono hb1.size)
  clear hB
  go_wp2_with fail
  have hC := apply_any S _ 1 [⟨S.size, 0, T⟩] b _ (by omega) (mild_one (by unfold Ed.mild; simp only; omega)) (Nat.le_refl _) (holds_one w2 ⟨S.size, 0, T⟩ 35) (hg2.below ((Below.refl _ _).alloc (Nat.le_refl _) _))
  rw [applyOut_yes (right_put S T), applied_put] at hC
  refine hC.mono ?_
  rintro e w3 ⟨rfl, hb3⟩
  have b23 : Below w2.heap.size w2 w3 := ((Below.refl _ _).alloc (Nat.le_refl _) _).trans (hb3.mono (by simp))
  have hg3 := hg2.below b23
  have b13 : Below w.heap.size w w3 := b12.trans (b23.mono b12.size)
  clear hC b12 b23 hb3 hg2
  go_wp2_with fail
  have hD := apply_any S _ 1 [⟨0, S.size, T⟩] b _ (by omega) (mild_one (by unfold Ed.mild; simp only; omega)) (Nat.le_refl _) (holds_one w3 ⟨0, S.size, T⟩ 35) (hg3.below ((Below.refl _ _).alloc (Nat.le_refl _) _))
  rw [applyOut_yes (right_all S T), applied_all] at hD
  refine hD.mono ?_
  rintro e w4 ⟨rfl, hb4⟩
  have b34 : Below w3.heap.size w3 w4 := ((Below.refl _ _).alloc (Nat.le_refl _) _).trans (hb4.mono (by simp))
  have b14 : Below w.heap.size w w4 := b13.trans (b34.mono b13.size)
  clear hD b13 b34 hb4 hg3
  have hq1 := bytes_beq_yes (rfl : S = S)
  have hq2 := bytes_beq_yes (rfl : T = T)
  have hq3 := bytes_beq_yes (rfl : S ++ T = S ++ T)
  have hE := between_any S S w4 (by omega) (by omega)
  rw [between_self] at hE
  have HE := Lib.hid hE
  clear hE
  go_wp2_with fail
  refine HE.out.mono ?_
  rintro e w5 ⟨A, c, rfl, _, _, hb5⟩
  clear HE
  go_wp2_with fail
  go_ret
  exact ⟨rfl, b14.trans (hb5.mono b14.size)⟩
end Go.Proofs.YtkfdjffoljkomaaDoor
