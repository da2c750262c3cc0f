/-
  A text in quotes, a number, a kind, by the document's program text.
-/
import Derived.Test.YtlokkdbgihbnhabDoorProg
import Derived.Test.YtlokkdbgihbnhabDoorReg
import Derived.WalkKit
import Derived.WalkSpells
import Derived.WalkLawsBesides
import Derived.Lib.Hide
import Derived.Lib.MinMax
import Derived.Deep.QuietTactic
import Derived.BigQuiet
import Derived.OwnWalk
import Derived.Deep.AppendLies
import Derived.KernelRfl
import Derived.Laws.Rows
import Derived.Test.YtlokkdbgihbnhabDoorGrpU
set_option linter.unusedSimpArgs false
set_option linter.unusedVariables false
namespace Go.Proofs.YtlokkdbgihbnhabDoor
open Go.RowKit

theorem quo_other {s : ByteArray} {k g : Nat} (h : k < s.size) (hc : s[k] ≠ 39) (hn : quoGo (s.data.toList.drop k) k = g) : quoGo (s.data.toList.drop (k + 1)) (k + 1) = g := by
  rw [← hn, List.drop_eq_getElem_cons (show k < s.data.toList.length from h), byte_get s k h]
  cases s.data.toList.drop (k + 1) <;> simp [quoGo, hc]
theorem quo_last {s : ByteArray} {k g : Nat} (h : k + 1 = s.size) (hc : s[k]'(by omega) = 39) (hn : quoGo (s.data.toList.drop k) k = g) : k + 1 = g := by
  have e : s.data.toList.drop k = [s[k]'(by omega)] := by
    rw [List.drop_eq_getElem_cons (show k < s.data.toList.length from by rw [bytes_len]; omega), byte_get s k (by omega), List.drop_of_length_le (by rw [bytes_len]; omega)]
  rw [← hn, e]
  simp [quoGo, hc]
theorem quo_end {s : ByteArray} {k g : Nat} (h : k + 1 < s.size) (hc : s[k]'(by omega) = 39) (hd : s[k + 1] ≠ 39) (hn : quoGo (s.data.toList.drop k) k = g) : k + 1 = g := by
  rw [← hn, List.drop_eq_getElem_cons (show k < s.data.toList.length from by rw [bytes_len]; omega), byte_get s k (by omega), List.drop_eq_getElem_cons (show k + 1 < s.data.toList.length from h), byte_get s (k + 1) h]
  simp [quoGo, hc, hd]
theorem quo_two {s : ByteArray} {k g : Nat} (h : k + 1 < s.size) (hc : s[k]'(by omega) = 39) (hd : s[k + 1] = 39) (hn : quoGo (s.data.toList.drop k) k = g) : quoGo (s.data.toList.drop (k + 1 + 1)) (k + 1 + 1) = g := by
  rw [← hn, List.drop_eq_getElem_cons (show k < s.data.toList.length from by rw [bytes_len]; omega), byte_get s k (by omega), List.drop_eq_getElem_cons (show k + 1 < s.data.toList.length from h), byte_get s (k + 1) h]
  simp [quoGo, hc, hd]
theorem quo_none {s : ByteArray} {k g : Nat} (h : s.size ≤ k) (hn : quoGo (s.data.toList.drop k) k = g) : 0 = g := by
  rw [← hn, List.drop_of_length_le (by rw [bytes_len]; exact h)]
  rfl

set_option maxRecDepth 100000 in
set_option maxHeartbeats 4000000 in
theorem quoted_any (s : ByteArray) (w : World) (hs : s.size ≤ 1000000) :
    Calls Tryd.prog 25 #[.string s] w fun r w' => r = .returned (.int .i64 (dQuoted s)) ∧ w' = w := by
  go_enter Tryd.func25, Tryd.ntmps25
  go_wp2
  go_loop [3] (fun i => ∃ k : Nat, k ≤ s.size + 1 ∧ i = .int .i64 k ∧ quoGo (s.data.toList.drop k) k = dQuoted s) (fun i => s.size + 1 - (intOf i).toNat)
  case atStart => exact ⟨1, by omega, rfl, rfl⟩
  case round =>
    obtain ⟨k, hk, rfl, hr⟩ := hrel
    by_cases hlt : k < s.size
    · by_cases h1 : s[k].toNat = 39
      · have hc : s[k] = 39 := UInt8.toNat_inj.1 h1
        have q1 : ((s[k].toNat : Int) == 39) = true := by simp; omega
        have q1' : ((s[k].toNat : Int) != 39) = false := by rw [bne, q1]; rfl
        by_cases h2 : k + 1 = s.size
        · have Z := Lib.hid (quo_last h2 hc hr)
          have q2 : (((k : Int) + 1) == (s.size : Int)) = true := by simp; omega
          clear hr hc h1
          go_wp2_with fail
          go_ret
          exact ⟨by rw [← Z.out]; go_num, rfl⟩
        · have h3 : k + 1 < s.size := by omega
          have q2 : (((k : Int) + 1) == (s.size : Int)) = false := by simp; omega
          have e1 : ((k : Int) + 1).toNat = k + 1 := by omega
          have b0 : (0 : Int) ≤ (k : Int) + 1 := by omega
          have b1 : (k : Int) + 1 < (s.size : Int) := by omega
          by_cases h4 : s[k + 1].toNat = 39
          · have Z := Lib.hid (quo_two h3 hc (UInt8.toNat_inj.1 h4) hr)
            have q3 : ((s[k + 1].toNat : Int) == 39) = true := by simp; omega
            have q3' : ((s[k + 1].toNat : Int) != 39) = false := by rw [bne, q3]; rfl
            clear hr hc h1 h4
            go_wp2_with fail
            go_round
            case rel => exact ⟨k + 1 + 1, by omega, by go_num, Z.out⟩
            case measure => simp [intOf]; omega
          · have hd : s[k + 1] ≠ 39 := fun e => h4 (by rw [e]; rfl)
            have Z := Lib.hid (quo_end h3 hc hd hr)
            have q3 : ((s[k + 1].toNat : Int) == 39) = false := by simp; omega
            have q3' : ((s[k + 1].toNat : Int) != 39) = true := by rw [bne, q3]; rfl
            clear hr hc h1 h4 hd
            go_wp2_with fail
            go_ret
            exact ⟨by rw [← Z.out]; go_num, rfl⟩
      · have hc : s[k] ≠ 39 := fun e => h1 (by rw [e]; rfl)
        have q1 : ((s[k].toNat : Int) == 39) = false := by simp; omega
        have q1' : ((s[k].toNat : Int) != 39) = true := by rw [bne, q1]; rfl
        have Z := Lib.hid (quo_other hlt hc hr)
        clear hr hc h1
        go_wp2_with fail
        go_round
        case rel => exact ⟨k + 1, by omega, by go_num, Z.out⟩
        case measure => simp [intOf]; omega
    · have Z := Lib.hid (quo_none (show s.size ≤ k by omega) hr)
      have q0 : ¬ (k : Int) < (s.size : Int) := by omega
      clear hr
      go_wp2_with fail
      go_ret
      exact ⟨by rw [← Z.out]; rfl, rfl⟩

set_option maxRecDepth 100000 in
set_option maxHeartbeats 1000000 in
theorem kind_any (c : Int) (w : World) :
    Calls Tryd.prog 29 #[.int .i64 c] w fun r w' => r = .returned (.int .i64 (dKind c)) ∧ w' = w := by
  unfold dKind
  by_cases h1 : c = 1
  · subst h1
    go_enter Tryd.func29, Tryd.ntmps29
    go_wp2_with fail
    go_ret
    exact ⟨rfl, rfl⟩
  · by_cases h2 : c = 2
    · subst h2
      go_enter Tryd.func29, Tryd.ntmps29
      go_wp2_with fail
      go_ret
      exact ⟨rfl, rfl⟩
    · by_cases h3 : c = 3
      · subst h3
        go_enter Tryd.func29, Tryd.ntmps29
        go_wp2_with fail
        go_ret
        exact ⟨rfl, rfl⟩
      · have q1 : (c == 1) = false := by simpa using h1
        have q2 : (c == 2) = false := by simpa using h2
        have q3 : (c == 3) = false := by simpa using h3
        go_enter Tryd.func29, Tryd.ntmps29
        go_wp2_with fail
        go_ret
        exact ⟨by simp [h1, h2, h3], rfl⟩
end Go.Proofs.YtlokkdbgihbnhabDoor
