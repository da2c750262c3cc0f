/-
  Walks: how many bytes two texts begin (end) with that are the same.
-/
import Derived.Test.YtkfdjffoljkomaaDoorProg
import Derived.Test.YtkfdjffoljkomaaDoorReg
import Derived.WalkKit
import Derived.WalkSpells
import Derived.WalkLawsBesides
import Derived.Lib.Hide
import Derived.Lib.MinMax
import Derived.Deep.QuietTactic
import Derived.BigQuiet
import Derived.OwnWalk
import Derived.Deep.AppendLies
import Derived.KernelRfl
import Derived.Test.YtkfdjffoljkomaaDoorEdR
set_option linter.unusedSimpArgs false
set_option linter.unusedVariables false
namespace Go.Proofs.YtkfdjffoljkomaaDoor
open Go.RowKit

set_option maxHeartbeats 400000 in
theorem at1_any (s : ByteArray) (i : Nat) (w : World) (h : i < s.size) :
    Calls Tryd.prog 29 #[.string s, .int .i64 i] w fun e w' => e = .returned (.int .u8 (s[i].toNat : Int)) ∧ w = w' := by
  go_enter Tryd.func29, Tryd.ntmps29
  go_wp2
  go_ret
  exact ⟨rfl, rfl⟩

set_option maxHeartbeats 400000 in
theorem at2_any (s : ByteArray) (i : Nat) (w : World) (hs : s.size ≤ 1000000) (h : i < s.size) :
    Calls Tryd.prog 30 #[.string s, .int .i64 i] w fun e w' => e = .returned (.int .u8 ((s[s.size - 1 - i]'(by omega)).toNat : Int)) ∧ w = w' := by
  go_enter Tryd.func30, Tryd.ntmps30
  have e : ((s.size : Int) - 1 - (i : Int)) = ((s.size - 1 - i : Nat) : Int) := by omega
  go_wp2
  go_ret
  exact ⟨rfl, rfl⟩

set_option maxRecDepth 100000 in
set_option maxHeartbeats 2000000 in
theorem same1_any (s t : ByteArray) (w : World) (hs : s.size ≤ 1000000) (ht : t.size ≤ 1000000) :
    Calls Tryd.prog 28 #[.string s, .string t, .func (.func 29) #[] #[]] w fun e w' => e = .returned (.int .i64 (front s t)) ∧ w = w' := by
  go_enter Tryd.func28, Tryd.ntmps28
  go_wp2
  go_loop [7] (fun i => ∃ n : Nat, n ≤ s.size ∧ n ≤ t.size ∧ i = .int .i64 n ∧ n + lcp (s.data.toList.drop n) (t.data.toList.drop n) = front s t) (fun i => s.size - (intOf i).toNat)
  case atStart => exact ⟨0, by omega, by omega, rfl, by simp [front]⟩
  case round =>
    obtain ⟨n, hn1, hn2, rfl, hr⟩ := hrel
    have Hr := Lib.hid hr
    clear hr
    by_cases hlt : n < s.size ∧ n < t.size
    · obtain ⟨l1, l2⟩ := hlt
      have hd : (n : Int) < min (s.size : Int) (t.size : Int) := by omega
      by_cases he : (s[n]).toNat = (t[n]).toNat
      · have hq : (((s[n]).toNat : Int) == ((t[n]).toNat : Int)) = true := by simp [he]
        have He := Lib.hid he
        clear he
        go_wp2_with (go_at_call 29; refine (at1_any _ n _ (by assumption)).mono ?_; rintro e w' ⟨rfl, rfl⟩)
        go_round
        case rel => exact ⟨n + 1, by omega, by omega, by go_num, front_go l1 l2 He.out Hr.out⟩
        case measure => simp [intOf]; omega
      · have hq : (((s[n]).toNat : Int) == ((t[n]).toNat : Int)) = false := by simp; omega
        have He := Lib.hid he
        clear he
        go_wp2_with (go_at_call 29; refine (at1_any _ n _ (by assumption)).mono ?_; rintro e w' ⟨rfl, rfl⟩)
        go_ret
        exact ⟨by rw [← front_stop l1 l2 He.out Hr.out]; rfl, rfl⟩
    · have hd : ¬ (n : Int) < min (s.size : Int) (t.size : Int) := by omega
      have hd' : decide ((n : Int) < min (s.size : Int) (t.size : Int)) = false := by simpa using hd
      have hlt' : s.size ≤ n ∨ t.size ≤ n := by omega
      have Hlt := Lib.hid hlt'
      clear hlt hlt'
      go_wp2
      go_ret
      exact ⟨by rw [← front_end Hlt.out Hr.out]; rfl, rfl⟩

set_option maxRecDepth 100000 in
set_option maxHeartbeats 2000000 in
theorem same2_any (s t : ByteArray) (w : World) (hs : s.size ≤ 1000000) (ht : t.size ≤ 1000000) :
    Calls Tryd.prog 28 #[.string s, .string t, .func (.func 30) #[] #[]] w fun e w' => e = .returned (.int .i64 (rear s t)) ∧ w = w' := by
  go_enter Tryd.func28, Tryd.ntmps28
  go_wp2
  go_loop [7] (fun i => ∃ n : Nat, n ≤ s.size ∧ n ≤ t.size ∧ i = .int .i64 n ∧ n + lcp (s.data.toList.reverse.drop n) (t.data.toList.reverse.drop n) = rear s t) (fun i => s.size - (intOf i).toNat)
  case atStart => exact ⟨0, by omega, by omega, rfl, by simp [rear]⟩
  case round =>
    obtain ⟨n, hn1, hn2, rfl, hr⟩ := hrel
    have Hr := Lib.hid hr
    clear hr
    by_cases hlt : n < s.size ∧ n < t.size
    · obtain ⟨l1, l2⟩ := hlt
      have hd : (n : Int) < min (s.size : Int) (t.size : Int) := by omega
      by_cases he : (s[s.size - 1 - n]'(by omega)).toNat = (t[t.size - 1 - n]'(by omega)).toNat
      · have hq : (((s[s.size - 1 - n]'(by omega)).toNat : Int) == ((t[t.size - 1 - n]'(by omega)).toNat : Int)) = true := by simp [he]
        have He := Lib.hid he
        clear he
        go_wp2_with (go_at_call 30; refine (at2_any _ n _ (by assumption) (by assumption)).mono ?_; rintro e w' ⟨rfl, rfl⟩)
        go_round
        case rel => exact ⟨n + 1, by omega, by omega, by go_num, rear_go l1 l2 He.out Hr.out⟩
        case measure => simp [intOf]; omega
      · have hq : (((s[s.size - 1 - n]'(by omega)).toNat : Int) == ((t[t.size - 1 - n]'(by omega)).toNat : Int)) = false := by simp; omega
        have He := Lib.hid he
        clear he
        go_wp2_with (go_at_call 30; refine (at2_any _ n _ (by assumption) (by assumption)).mono ?_; rintro e w' ⟨rfl, rfl⟩)
        go_ret
        exact ⟨by rw [← rear_stop l1 l2 He.out Hr.out]; rfl, rfl⟩
    · have hd : ¬ (n : Int) < min (s.size : Int) (t.size : Int) := by omega
      have hd' : decide ((n : Int) < min (s.size : Int) (t.size : Int)) = false := by simpa using hd
      have hlt' : s.size ≤ n ∨ t.size ≤ n := by omega
      have Hlt := Lib.hid hlt'
      clear hlt hlt'
      go_wp2
      go_ret
      exact ⟨by rw [← rear_end Hlt.out Hr.out]; rfl, rfl⟩

end Go.Proofs.YtkfdjffoljkomaaDoor
