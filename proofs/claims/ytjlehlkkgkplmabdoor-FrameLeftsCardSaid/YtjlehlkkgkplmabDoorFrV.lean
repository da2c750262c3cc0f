/-
  Is a text a value? By the program.
-/
import Derived.Test.YtjlehlkkgkplmabDoorProg
import Derived.Test.YtjlehlkkgkplmabDoorReg
import Derived.WalkKit
import Derived.WalkSpells
import Derived.WalkLawsBesides
import Derived.Lib.Hide
import Derived.Lib.MinMax
import Derived.Deep.QuietTactic
import Derived.BigQuiet
import Derived.OwnWalk
import Derived.Deep.AppendLies
import Derived.KernelRfl
import Derived.Test.YtjlehlkkgkplmabDoorFrP
set_option linter.unusedSimpArgs false
set_option linter.unusedVariables false
namespace Go.Proofs.YtjlehlkkgkplmabDoor
open Go.RowKit

theorem all_step (p : UInt8 → Bool) (l : List UInt8) (k : Nat) (c : UInt8) (h : l[k]? = some c) : (l.take (k + 1)).all p = ((l.take k).all p && p c) := by
  obtain ⟨hl, rfl⟩ := List.getElem?_eq_some_iff.1 h
  rw [List.take_succ_eq_append_getElem hl, List.all_append]
  simp
/-- Is a text a value, a name? -/
def isValS (s : ByteArray) : Bool := s.data.toList.all isValB
set_option maxHeartbeats 4000000 in
theorem isValue_any (s : ByteArray) (w : World) (hs : s.size ≤ 1000000) :
    Calls Tryd.prog 33 #[.string s] w fun e w' => e = .returned (.bool (isValS s)) ∧ w' = w := by
  go_enter Tryd.func33, Tryd.ntmps33
  go_wp2_with fail
  go_loop [6] (fun i => ∃ k : Nat, k ≤ s.size ∧ i = .int .i64 (k : Int) ∧ Hid ((s.data.toList.take k).all isValB = true)) (fun i => s.size - (intOf i).toNat)
  case atStart => exact ⟨0, Nat.zero_le _, rfl, Lib.hid rfl⟩
  case round =>
    obtain ⟨k, hk, rfl, HA⟩ := hrel
    by_cases hlt : k < s.size
    · have hget : s.data.toList[k]? = some s[k] := by rw [List.getElem?_eq_getElem (show k < s.data.toList.length from hlt)]; rfl
      have hst := all_step isValB s.data.toList k s[k] hget
      rw [HA.out, Bool.true_and] at hst
      have c1 : (k : Int) < (s.size : Int) := by omega
      have hv : isValB s[k] = (decide (32 ≤ s[k].toNat) && decide (s[k].toNat ≤ 126)) := rfl
      by_cases r1 : (s[k].toNat : Int) < 32
      · have hall : isValS s = false := by
          unfold isValS
          rw [List.all_eq_false]
          refine ⟨s[k], List.mem_of_getElem? hget, ?_⟩
          rw [hv]
          simp
          omega
        have HE := Lib.hid hall
        clear hst hv hall hget
        go_wp2_with fail
        go_ret
        exact ⟨by rw [HE.out]; rfl, rfl⟩
      · by_cases r2 : 126 < (s[k].toNat : Int)
        · have hall : isValS s = false := by
            unfold isValS
            rw [List.all_eq_false]
            refine ⟨s[k], List.mem_of_getElem? hget, ?_⟩
            rw [hv]
            simp
            omega
          have HE := Lib.hid hall
          clear hst hv hall hget
          go_wp2_with fail
          go_ret
          exact ⟨by rw [HE.out]; rfl, rfl⟩
        · have HA2 : Hid ((s.data.toList.take (k + 1)).all isValB = true) := Lib.hid (by
            rw [hst, hv]
            simp
            omega)
          clear hst hv hget
          go_wp2_with fail
          go_round
          case rel => exact ⟨k + 1, by omega, by go_num, HA2⟩
          case measure => simp [intOf]; omega
    · obtain rfl : k = s.size := by omega
      have hall := HA.out
      rw [List.take_of_length_le (show s.data.toList.length ≤ s.size from Nat.le_refl _)] at hall
      have HE : Hid (isValS s = true) := Lib.hid hall
      clear hall HA
      go_wp2_with fail
      go_ret
      exact ⟨by rw [HE.out]; rfl, rfl⟩
end Go.Proofs.YtjlehlkkgkplmabDoor
