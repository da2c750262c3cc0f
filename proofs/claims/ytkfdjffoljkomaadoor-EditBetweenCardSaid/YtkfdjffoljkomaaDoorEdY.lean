/-
  Walk: the edit between two texts, by the reference.
-/
import Derived.Test.YtkfdjffoljkomaaDoorProg
import Derived.Test.YtkfdjffoljkomaaDoorReg
import Derived.WalkKit
import Derived.WalkSpells
import Derived.WalkLawsBesides
import Derived.Lib.Hide
import Derived.Lib.MinMax
import Derived.Deep.QuietTactic
import Derived.BigQuiet
import Derived.OwnWalk
import Derived.Deep.AppendLies
import Derived.KernelRfl
import Derived.Test.YtkfdjffoljkomaaDoorEdT
set_option linter.unusedSimpArgs false
set_option linter.unusedVariables false
namespace Go.Proofs.YtkfdjffoljkomaaDoor
open Go.RowKit

theorem rest_get (s : ByteArray) (f i : Nat) (h : i < (rest s f).size) (h2 : f + i < s.size) : (rest s f)[i] = s[f + i] := by
  exact ByteArray.getElem_extract h

/-- One round of the second loop. -/
theorem back_go {s t : ByteArray} {f n : Nat} (h1 : n < s.size - f) (h2 : n < t.size - f) (he : (s[s.size - 1 - n]'(by omega)).toNat = (t[t.size - 1 - n]'(by omega)).toNat)
    (hn : n + lcp ((rest s f).data.toList.reverse.drop n) ((rest t f).data.toList.reverse.drop n) = rear (rest s f) (rest t f)) :
    n + 1 + lcp ((rest s f).data.toList.reverse.drop (n + 1)) ((rest t f).data.toList.reverse.drop (n + 1)) = rear (rest s f) (rest t f) := by
  have e1 : (rest s f).size = s.size - f := rest_size s f
  have e2 : (rest t f).size = t.size - f := rest_size t f
  refine rear_go (by omega) (by omega) ?_ hn
  rw [rest_get _ _ _ (by omega) (by omega), rest_get _ _ _ (by omega) (by omega)]
  have q1 : f + ((rest s f).size - 1 - n) = s.size - 1 - n := by omega
  have q2 : f + ((rest t f).size - 1 - n) = t.size - 1 - n := by omega
  simp only [q1, q2]
  exact he
theorem back_stop {s t : ByteArray} {f n : Nat} (h1 : n < s.size - f) (h2 : n < t.size - f) (he : (s[s.size - 1 - n]'(by omega)).toNat ≠ (t[t.size - 1 - n]'(by omega)).toNat)
    (hn : n + lcp ((rest s f).data.toList.reverse.drop n) ((rest t f).data.toList.reverse.drop n) = rear (rest s f) (rest t f)) :
    n = rear (rest s f) (rest t f) := by
  have e1 : (rest s f).size = s.size - f := rest_size s f
  have e2 : (rest t f).size = t.size - f := rest_size t f
  refine rear_stop (by omega) (by omega) ?_ hn
  rw [rest_get _ _ _ (by omega) (by omega), rest_get _ _ _ (by omega) (by omega)]
  have q1 : f + ((rest s f).size - 1 - n) = s.size - 1 - n := by omega
  have q2 : f + ((rest t f).size - 1 - n) = t.size - 1 - n := by omega
  simp only [q1, q2]
  exact he
theorem back_end {s t : ByteArray} {f n : Nat} (h : s.size - f ≤ n ∨ t.size - f ≤ n)
    (hn : n + lcp ((rest s f).data.toList.reverse.drop n) ((rest t f).data.toList.reverse.drop n) = rear (rest s f) (rest t f)) :
    n = rear (rest s f) (rest t f) := by
  have e1 : (rest s f).size = s.size - f := rest_size s f
  have e2 : (rest t f).size = t.size - f := rest_size t f
  exact rear_end (by omega) hn

set_option maxRecDepth 100000 in
set_option maxHeartbeats 2000000 in
theorem refBetween_any (s t : ByteArray) (w : World) (hs : s.size ≤ 1000000) (ht : t.size ≤ 1000000) :
    Calls Tryd.prog 22 #[.string s, .string t] w fun e w' => ∃ A c, e = .returned (.slice A (between s t).length c) ∧ Holds w' A (between s t) ∧ (between s t).length ≤ c ∧ Below w.heap.size w w' ∧ ∀ a, A = some a → w.heap.size ≤ a.block := by
  by_cases he : s = t
  · have hq := bytes_beq_yes he
    have hb : between s t = [] := by simp [between, he]
    have Hb := Lib.hid hb
    clear he hb
    go_enter Tryd.func22, Tryd.ntmps22
    go_wp2
    go_ret
    rw [Hb.out]
    exact ⟨none, 0, rfl, Holds.nil _ _, Nat.le_refl _, Below.refl _ _, fun a e => by cases e⟩
  · have hq := bytes_beq_no he
    have hb : between s t = [edge s t] := by simp [between, he]
    have Hb := Lib.hid hb
    clear he hb
    go_enter Tryd.func22, Tryd.ntmps22
    go_wp2
    go_loopw [5] (fun i wr => ∃ n : Nat, n ≤ s.size ∧ n ≤ t.size ∧ i = .int .i64 n ∧ Hid (n + lcp (s.data.toList.drop n) (t.data.toList.drop n) = front s t) ∧ ∃ k, wr = w.drewN k) (fun i _ => s.size - (intOf i).toNat)
    case atStart => exact ⟨0, by omega, by omega, rfl, Lib.hid (by simp [front]), 0, rfl⟩
    case round =>
      obtain ⟨n, hn1, hn2, rfl, Hr, k0, rfl⟩ := hrel
      by_cases hgo : ∃ (l1 : n < s.size) (l2 : n < t.size), (s[n]).toNat = (t[n]).toNat
      · obtain ⟨l1, l2, he⟩ := hgo
        have hq : (((s[n]).toNat : Int) == ((t[n]).toNat : Int)) = true := by simp [he]
        have He := Lib.hid he
        clear he
        go_wp2
        go_quiet (fail)
        go_wp2
        go_roundw
        case rel => exact ⟨n + 1, by omega, by omega, by go_num, Lib.hid (front_go l1 l2 He.out Hr.out), _, rfl⟩
        case measure => simp [intOf]; omega
      · have hst : decide (n < s.size) = false ∨ n < s.size ∧ decide (n < t.size) = false ∨ ∃ (l1 : n < s.size) (l2 : n < t.size), (((s[n]).toNat : Int) == ((t[n]).toNat : Int)) = false := by
          by_cases l1 : n < s.size
          · by_cases l2 : n < t.size
            · exact .inr (.inr ⟨l1, l2, by simp; exact fun e => hgo ⟨l1, l2, by omega⟩⟩)
            · exact .inr (.inl ⟨l1, by simp; omega⟩)
          · exact .inl (by simp; omega)
        have Hf : n = front s t := by
          by_cases l1 : n < s.size
          · by_cases l2 : n < t.size
            · exact front_stop l1 l2 (fun e => hgo ⟨l1, l2, e⟩) Hr.out
            · exact front_end (.inr (by omega)) Hr.out
          · exact front_end (.inl (by omega)) Hr.out
        have He : Hid (edge s t = ⟨n, (s.size : Int) - rear (rest s n) (rest t n) - n, t.extract n (t.size - rear (rest s n) (rest t n))⟩) := Lib.hid (by rw [Hf]; rfl)
        have hr := rear_le (rest s n) (rest t n)
        rw [rest_size, rest_size] at hr
        obtain ⟨r1, r2⟩ := hr
        clear Hf Hr hgo
        rcases hst with d1 | ⟨l1, d2⟩ | ⟨l1, l2, hq⟩
        all_goals
          go_wp2
          go_quiet (fail)
          go_wp2
          try clear d1
          try clear l1 d2
          try clear l1 l2 hq
          go_loopw [6] (fun i wr => ∃ m : Nat, m ≤ s.size - n ∧ m ≤ t.size - n ∧ i = .int .i64 m ∧ Hid (m + lcp ((rest s n).data.toList.reverse.drop m) ((rest t n).data.toList.reverse.drop m) = rear (rest s n) (rest t n)) ∧ ∃ k, wr = w.drewN k) (fun i _ => s.size - (intOf i).toNat)
          case atStart => exact ⟨0, by omega, by omega, rfl, Lib.hid (by simp [rear]), _, World.drewN_drewN _ _ _⟩
          case round =>
            obtain ⟨m, hm1, hm2, rfl, Hm, k1, rfl⟩ := hrel
            by_cases hgo : ∃ (l1 : m < s.size - n) (l2 : m < t.size - n), (s[s.size - 1 - m]'(by omega)).toNat = (t[t.size - 1 - m]'(by omega)).toNat
            · obtain ⟨l1, l2, he⟩ := hgo
              have hq : (((s[s.size - 1 - m]'(by omega)).toNat : Int) == ((t[t.size - 1 - m]'(by omega)).toNat : Int)) = true := by simp [he]
              have e1 : ((s.size : Int) - 1 - (m : Int)) = ((s.size - 1 - m : Nat) : Int) := by omega
              have e2 : ((t.size : Int) - 1 - (m : Int)) = ((t.size - 1 - m : Nat) : Int) := by omega
              have z1 : s.size - 1 - m < s.size := by omega
              have z2 : t.size - 1 - m < t.size := by omega
              have y1 : (m : Int) < (s.size : Int) - (n : Int) := by omega
              have y2 : (m : Int) < (t.size : Int) - (n : Int) := by omega
              have He := Lib.hid he
              clear he
              go_wp2
              go_quiet (fail)
              go_wp2
              go_roundw
              case rel => exact ⟨m + 1, by omega, by omega, by go_num, Lib.hid (back_go l1 l2 He.out Hm.out), _, rfl⟩
              case measure => simp [intOf]; omega
            · have hst : decide ((m : Int) < (s.size : Int) - (n : Int)) = false ∨ (m : Int) < (s.size : Int) - (n : Int) ∧ decide ((m : Int) < (t.size : Int) - (n : Int)) = false ∨ ∃ (l1 : m < s.size - n) (l2 : m < t.size - n), (((s[s.size - 1 - m]'(by omega)).toNat : Int) == ((t[t.size - 1 - m]'(by omega)).toNat : Int)) = false := by
                by_cases l1 : m < s.size - n
                · by_cases l2 : m < t.size - n
                  · exact .inr (.inr ⟨l1, l2, by simp; exact fun e => hgo ⟨l1, l2, by omega⟩⟩)
                  · exact .inr (.inl ⟨by omega, by simp; omega⟩)
                · exact .inl (by simp; omega)
              have Hf : m = rear (rest s n) (rest t n) := by
                by_cases l1 : m < s.size - n
                · by_cases l2 : m < t.size - n
                  · exact back_stop l1 l2 (fun e => hgo ⟨l1, l2, e⟩) Hm.out
                  · exact back_end (.inr (by omega)) Hm.out
                · exact back_end (.inl (by omega)) Hm.out
              rw [← Hf] at He
              clear Hf Hm hgo
              have q1 : (0 : Int) ≤ (n : Int) := by omega
              have q2 : (n : Int) ≤ (t.size : Int) - (m : Int) := by omega
              have q3 : (t.size : Int) - (m : Int) ≤ (t.size : Int) := by omega
              have q4 : ((t.size : Int) - (m : Int)).toNat = t.size - m := by omega
              rcases hst with d1 | ⟨l1, d2⟩ | ⟨l1, l2, hq⟩
              all_goals
                try have y1 : (m : Int) < (s.size : Int) - (n : Int) := by omega
                try have y2 : (m : Int) < (t.size : Int) - (n : Int) := by omega
                try have e1 : ((s.size : Int) - 1 - (m : Int)) = ((s.size - 1 - m : Nat) : Int) := by omega
                try have e2 : ((t.size : Int) - 1 - (m : Int)) = ((t.size - 1 - m : Nat) : Int) := by omega
                try have z1 : s.size - 1 - m < s.size := by omega
                try have z2 : t.size - 1 - m < t.size := by omega
                go_wp2
                go_quiet (fail)
                go_wp2
                go_ret
                rw [Hb.out, He.out]
                exact ⟨_, _, rfl, (holds_one w ⟨n, (s.size : Int) - m - n, t.extract n (t.size - m)⟩ 35).drewN _, Nat.le_refl _, below_drewN ((Below.refl _ _).alloc (Nat.le_refl _) _) _, fun a e => by cases e; simp⟩
end Go.Proofs.YtkfdjffoljkomaaDoor
