/-
  Runs of bytes, by the document's program text: blanks, digits, a word.
-/
import Derived.Test.YtlokkdbgihbnhabDoorProg
import Derived.Test.YtlokkdbgihbnhabDoorReg
import Derived.WalkKit
import Derived.WalkSpells
import Derived.WalkLawsBesides
import Derived.Lib.Hide
import Derived.Lib.MinMax
import Derived.Deep.QuietTactic
import Derived.BigQuiet
import Derived.OwnWalk
import Derived.Deep.AppendLies
import Derived.KernelRfl
import Derived.Test.YtlokkdbgihbnhabDoorGrpT
import Derived.Test.YtlokkdbgihbnhabDoorGrpL
set_option linter.unusedSimpArgs false
set_option linter.unusedVariables false
namespace Go.Proofs.YtlokkdbgihbnhabDoor
open Go.RowKit

theorem bytes_len (s : ByteArray) : s.data.toList.length = s.size := rfl
theorem byte_get (s : ByteArray) (n : Nat) (h : n < s.size) : s.data.toList[n]'(by rw [bytes_len]; exact h) = s[n] := by
  simp [ByteArray.getElem_eq_getElem_data]

/-- A run, from place n on. -/
theorem many_go {p : UInt8 → Bool} {l : List UInt8} {n g : Nat} (h : n < l.length) (hp : p l[n] = true) (hn : n + many p (l.drop n) = g) : n + 1 + many p (l.drop (n + 1)) = g := by
  have e : many p (l.drop n) = many p (l.drop (n + 1)) + 1 := by
    rw [List.drop_eq_getElem_cons h]
    unfold many
    rw [List.takeWhile_cons, hp]
    simp
  omega
theorem many_stop {p : UInt8 → Bool} {l : List UInt8} {n g : Nat} (h : n < l.length) (hp : p l[n] = false) (hn : n + many p (l.drop n) = g) : n = g := by
  have e : many p (l.drop n) = 0 := by
    rw [List.drop_eq_getElem_cons h]
    unfold many
    rw [List.takeWhile_cons, hp]
    simp
  omega
theorem many_end {p : UInt8 → Bool} {l : List UInt8} {n g : Nat} (h : l.length ≤ n) (hn : n + many p (l.drop n) = g) : n = g := by
  rw [← hn, List.drop_of_length_le h]
  simp [many]
theorem many_le (p : UInt8 → Bool) (l : List UInt8) : many p l ≤ l.length := by
  unfold many
  induction l with
  | nil => simp
  | cons a l ih =>
    simp only [List.takeWhile_cons]
    split
    · simp; omega
    · simp

theorem isLetter_any (c : UInt8) (w : World) : Calls Tryd.prog 43 #[.int .u8 c.toNat] w fun r w' => r = .returned (.bool (isLet c)) ∧ w' = w := by
  have e : (c == 95) = decide (c.toNat = 95) := by
    rw [Bool.eq_iff_iff, beq_iff_eq, decide_eq_true_eq]
    exact ⟨fun h => by rw [h]; rfl, fun h => UInt8.toNat_inj.1 h⟩
  unfold isLet
  rw [e]
  clear e
  generalize c.toNat = n
  by_cases h1 : 97 ≤ n <;> by_cases h2 : n ≤ 122 <;> by_cases h3 : 65 ≤ n <;> by_cases h4 : n ≤ 90 <;> by_cases h5 : n = 95
  all_goals try (exfalso; omega)
  all_goals
    first
      | have q1 : (97 : Int) ≤ (n : Int) := by omega
      | have q1 : ¬ (97 : Int) ≤ (n : Int) := by omega
    first
      | have q2 : (n : Int) ≤ 122 := by omega
      | have q2 : ¬ (n : Int) ≤ 122 := by omega
    first
      | have q3 : (65 : Int) ≤ (n : Int) := by omega
      | have q3 : ¬ (65 : Int) ≤ (n : Int) := by omega
    first
      | have q4 : (n : Int) ≤ 90 := by omega
      | have q4 : ¬ (n : Int) ≤ 90 := by omega
    first
      | have q5 : ((n : Int) == 95) = true := by simp; omega
      | have q5 : ((n : Int) == 95) = false := by simp; omega
    go_enter Tryd.func43, Tryd.ntmps43
    go_wp2_with fail
    all_goals go_ret
    all_goals exact ⟨by simp [h1, h2, h3, h4, h5], rfl⟩

theorem isDigit_any (c : UInt8) (w : World) : Calls Tryd.prog 27 #[.int .u8 c.toNat] w fun r w' => r = .returned (.bool (isDig c)) ∧ w' = w := by
  unfold isDig
  generalize c.toNat = n
  by_cases h1 : 48 ≤ n <;> by_cases h2 : n ≤ 57
  all_goals try (exfalso; omega)
  all_goals
    first
      | have q1 : (48 : Int) ≤ (n : Int) := by omega
      | have q1 : ¬ (48 : Int) ≤ (n : Int) := by omega
    first
      | have q2 : (n : Int) ≤ 57 := by omega
      | have q2 : ¬ (n : Int) ≤ 57 := by omega
    go_enter Tryd.func27, Tryd.ntmps27
    go_wp2_with fail
    all_goals go_ret
    all_goals exact ⟨by simp [h1, h2], rfl⟩

set_option maxRecDepth 100000 in
set_option maxHeartbeats 2000000 in
theorem digits_any (s : ByteArray) (w : World) (hs : s.size ≤ 1000000) :
    Calls Tryd.prog 42 #[.string s] w fun r w' => r = .returned (.int .i64 (dDigits s)) ∧ w' = w := by
  have D := Lib.hid isDigit_any
  go_enter Tryd.func42, Tryd.ntmps42
  go_wp2
  go_loop [3] (fun i => ∃ k : Nat, k ≤ s.size ∧ i = .int .i64 k ∧ k + many isDig (s.data.toList.drop k) = dDigits s) (fun i => s.size - (intOf i).toNat)
  case atStart => exact ⟨0, by omega, rfl, by simp [dDigits]⟩
  case round =>
    obtain ⟨k, hk, rfl, hr⟩ := hrel
    by_cases hlt : k < s.size
    · have hl : k < s.data.toList.length := hlt
      have hg := byte_get s k hlt
      have G := Lib.hid (fun hp => many_go (p := isDig) hl hp hr)
      have T := Lib.hid (fun hp => many_stop (p := isDig) hl hp hr)
      rw [hg] at G T
      clear hr hg
      cases hd : isDig s[k] with
      | true =>
        have Z := Lib.hid (G.out hd)
        have D1 := Lib.hid (D.out s[k])
        rw [hd] at D1
        clear G T hd D
        go_wp2_with fail
        refine (D1.out _).mono ?_
        rintro r w' ⟨rfl, rfl⟩
        go_wp2_with fail
        go_round
        case rel => exact ⟨k + 1, by omega, by go_num, Z.out⟩
        case measure => simp [intOf]; omega
      | false =>
        have Z := Lib.hid (T.out hd)
        have D1 := Lib.hid (D.out s[k])
        rw [hd] at D1
        clear G T hd D
        go_wp2_with fail
        refine (D1.out _).mono ?_
        rintro r w' ⟨rfl, rfl⟩
        go_wp2_with fail
        go_ret
        exact ⟨by rw [← Z.out]; rfl, rfl⟩
    · obtain rfl : k = s.size := by omega
      have Z := Lib.hid (many_end (p := isDig) (by rw [bytes_len]; omega) hr)
      clear hr
      go_wp2_with fail
      go_ret
      exact ⟨by rw [← Z.out]; rfl, rfl⟩

def isWord (c : UInt8) : Bool := isLet c || isDig c

set_option maxRecDepth 100000 in
set_option maxHeartbeats 4000000 in
theorem word_any (s : ByteArray) (w : World) (hs : s.size ≤ 1000000) :
    Calls Tryd.prog 28 #[.string s] w fun r w' => r = .returned (.int .i64 (dWord s)) ∧ w' = w := by
  have D := Lib.hid isDigit_any
  have L := Lib.hid isLetter_any
  go_enter Tryd.func28, Tryd.ntmps28
  go_wp2
  go_loop [3] (fun i => ∃ k : Nat, k ≤ s.size ∧ i = .int .i64 k ∧ (k = 0 ∨ 0 < k ∧ k + many isWord (s.data.toList.drop k) = dWord s)) (fun i => s.size - (intOf i).toNat)
  case atStart => exact ⟨0, by omega, rfl, Or.inl rfl⟩
  case round =>
    obtain ⟨k, hk, rfl, hr⟩ := hrel
    by_cases hlt : k < s.size
    · have hl : k < s.data.toList.length := hlt
      have hg := byte_get s k hlt
      rcases hr with rfl | ⟨hk0, hr⟩
      · have hw : s.data.toList = s[0] :: s.data.toList.drop 1 := by
          rw [← hg]
          exact List.drop_eq_getElem_cons hl
        have G : Hid (isLet s[0] = true → 0 + 1 + many isWord (s.data.toList.drop (0 + 1)) = dWord s) := Lib.hid (fun h => by
          unfold dWord
          rw [hw]
          simp only [wordL, h, if_true, List.drop_succ_cons, List.drop_zero]
          show _ = many isWord _ + 1
          omega)
        have T : Hid (isLet s[0] = false → 0 = dWord s) := Lib.hid (fun h => by
          unfold dWord
          rw [hw]
          simp [wordL, h])
        clear hw hg
        cases hd : isLet s[0] with
        | true =>
          have Z := Lib.hid (G.out hd)
          have L1 := Lib.hid (L.out s[0])
          rw [hd] at L1
          clear G T hd L D
          go_wp2_with fail
          refine (L1.out _).mono ?_
          rintro r w' ⟨rfl, rfl⟩
          go_wp2_with fail
          go_round
          case rel => exact ⟨0 + 1, by omega, by go_num, Or.inr ⟨by omega, Z.out⟩⟩
          case measure => simp [intOf]; omega
        | false =>
          have Z := Lib.hid (T.out hd)
          have L1 := Lib.hid (L.out s[0])
          rw [hd] at L1
          clear G T hd L D
          go_wp2_with fail
          refine (L1.out _).mono ?_
          rintro r w' ⟨rfl, rfl⟩
          go_wp2_with fail
          go_ret
          exact ⟨by rw [← Z.out]; rfl, rfl⟩
      · have G := Lib.hid (fun hp => many_go (p := isWord) hl hp hr)
        have T := Lib.hid (fun hp => many_stop (p := isWord) hl hp hr)
        rw [hg] at G T
        clear hr hg
        have q0 : (0 : Int) < (k : Int) := by omega
        cases hd : isLet s[k] with
        | true =>
          have Z := Lib.hid (G.out (by simp [isWord, hd]))
          have L1 := Lib.hid (L.out s[k])
          rw [hd] at L1
          clear G T hd L D
          go_wp2_with fail
          refine (L1.out _).mono ?_
          rintro r w' ⟨rfl, rfl⟩
          go_wp2_with fail
          go_round
          case rel => exact ⟨k + 1, by omega, by go_num, Or.inr ⟨by omega, Z.out⟩⟩
          case measure => simp [intOf]; omega
        | false =>
          have L1 := Lib.hid (L.out s[k])
          have D1 := Lib.hid (D.out s[k])
          rw [hd] at L1
          cases hq : isDig s[k] with
          | true =>
            have Z := Lib.hid (G.out (by simp [isWord, hq]))
            rw [hq] at D1
            clear G T hd hq L D
            go_wp2_with fail
            refine (L1.out _).mono ?_
            rintro r w' ⟨rfl, rfl⟩
            go_wp2_with fail
            refine (D1.out _).mono ?_
            rintro r w' ⟨rfl, rfl⟩
            go_wp2_with fail
            go_round
            case rel => exact ⟨k + 1, by omega, by go_num, Or.inr ⟨by omega, Z.out⟩⟩
            case measure => simp [intOf]; omega
          | false =>
            have Z := Lib.hid (T.out (by simp [isWord, hd, hq]))
            rw [hq] at D1
            clear G T hd hq L D
            go_wp2_with fail
            refine (L1.out _).mono ?_
            rintro r w' ⟨rfl, rfl⟩
            go_wp2_with fail
            refine (D1.out _).mono ?_
            rintro r w' ⟨rfl, rfl⟩
            go_wp2_with fail
            go_ret
            exact ⟨by rw [← Z.out]; rfl, rfl⟩
    · obtain rfl : k = s.size := by omega
      have Z : Hid (s.size = dWord s) := Lib.hid (by
        rcases hr with h | ⟨_, hr⟩
        · have : s.data.toList = [] := List.eq_nil_of_length_eq_zero (by rw [bytes_len]; exact h)
          unfold dWord
          rw [this, h]
          rfl
        · exact many_end (p := isWord) (by rw [bytes_len]; omega) hr)
      clear hr
      go_wp2_with fail
      go_ret
      exact ⟨by rw [← Z.out]; rfl, rfl⟩

set_option maxRecDepth 100000 in
set_option maxHeartbeats 2000000 in
theorem blanks_any (s : ByteArray) (w : World) (hs : s.size ≤ 1000000) :
    Calls Tryd.prog 24 #[.string s] w fun r w' => r = .returned (.int .i64 (dBlanks s)) ∧ w' = w := by
  go_enter Tryd.func24, Tryd.ntmps24
  go_wp2
  go_loop [3] (fun i => ∃ k : Nat, k ≤ s.size ∧ i = .int .i64 k ∧ k + many isBlank (s.data.toList.drop k) = dBlanks s) (fun i => s.size - (intOf i).toNat)
  case atStart => exact ⟨0, by omega, rfl, by simp [dBlanks]⟩
  case round =>
    obtain ⟨k, hk, rfl, hr⟩ := hrel
    by_cases hlt : k < s.size
    · have hl : k < s.data.toList.length := hlt
      have hg := byte_get s k hlt
      have G := Lib.hid (fun hp => many_go (p := isBlank) hl hp hr)
      have T := Lib.hid (fun hp => many_stop (p := isBlank) hl hp hr)
      rw [hg] at G T
      clear hr hg
      by_cases h1 : s[k].toNat = 32
      · have hd : isBlank s[k] = true := by
          have : s[k] = 32 := UInt8.toNat_inj.1 h1
          simp [isBlank, this]
        have Z := Lib.hid (G.out hd)
        have q1 : ((s[k].toNat : Int) == 32) = true := by simp; omega
        clear G T hd
        go_wp2_with fail
        go_round
        case rel => exact ⟨k + 1, by omega, by go_num, Z.out⟩
        case measure => simp [intOf]; omega
      · have q1 : ((s[k].toNat : Int) == 32) = false := by simp; omega
        by_cases h2 : s[k].toNat = 9
        · have hd : isBlank s[k] = true := by
            have : s[k] = 9 := UInt8.toNat_inj.1 h2
            simp [isBlank, this]
          have Z := Lib.hid (G.out hd)
          have q2 : ((s[k].toNat : Int) == 9) = true := by simp; omega
          clear G T hd
          go_wp2_with fail
          go_round
          case rel => exact ⟨k + 1, by omega, by go_num, Z.out⟩
          case measure => simp [intOf]; omega
        · have hd : isBlank s[k] = false := by
            have e1 : s[k] ≠ 32 := fun e => h1 (by rw [e]; rfl)
            have e2 : s[k] ≠ 9 := fun e => h2 (by rw [e]; rfl)
            simp [isBlank, e1, e2]
          have Z := Lib.hid (T.out hd)
          have q2 : ((s[k].toNat : Int) == 9) = false := by simp; omega
          clear G T hd
          go_wp2_with fail
          go_ret
          exact ⟨by rw [← Z.out]; rfl, rfl⟩
    · obtain rfl : k = s.size := by omega
      have Z := Lib.hid (many_end (p := isBlank) (by rw [bytes_len]; omega) hr)
      clear hr
      go_wp2_with fail
      go_ret
      exact ⟨by rw [← Z.out]; rfl, rfl⟩
end Go.Proofs.YtlokkdbgihbnhabDoor
