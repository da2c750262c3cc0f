/-
  Walks of the small functions of layer 16 and its reference.
-/
import Derived.Test.YtkfdjffoljkomaaDoorProg
import Derived.Test.YtkfdjffoljkomaaDoorEdP
import Derived.WalkKit
import Derived.WalkSpells
import Derived.WalkLawsBesides
import Derived.Lib.Hide
import Derived.Deep.QuietTactic
import Derived.BigQuiet
set_option linter.unusedSimpArgs false
set_option linter.unusedVariables false
namespace Go.Proofs.YtkfdjffoljkomaaDoor
open Go.RowKit

set_option maxHeartbeats 4000000 in
theorem cut_any (s : ByteArray) (w : World) (hs : s.size ≤ maxLen) :
    Calls Tryd.prog 10 #[.string s] w fun e w' => e = .returned (.string (s.extract 0 (min s.size 600))) ∧ w = w' := by
  unfold maxLen at hs
  by_cases h : s.size ≤ 600
  · rw [Nat.min_eq_left h]
    have h' : (s.size : Int) ≤ 600 := by omega
    go_enter Tryd.func10, Tryd.ntmps10
    go_wp2
    go_ret
    exact ⟨by simp, rfl⟩
  · rw [Nat.min_eq_right (by omega)]
    have h' : 600 < (s.size : Int) := by omega
    go_enter Tryd.func10, Tryd.ntmps10
    go_wp2
    go_ret
    exact ⟨rfl, rfl⟩

set_option maxHeartbeats 4000000 in
theorem refRight_any (s : ByteArray) (A : Option Addr) (c : Nat) (l : List Ed) (w : World) (hs : s.size ≤ 1000000) (hl : mild l) (hh : Holds w A l) :
    Calls Tryd.prog 20 #[.string s, .slice A l.length c] w fun e w' => e = .returned (.bool (right s.size 0 l)) ∧ ∃ n, w' = w.drewN n := by
  obtain ⟨hl1, hl2⟩ := hl
  go_enter Tryd.func20, Tryd.ntmps20
  go_wp2
  go_loopw [5, 6] (fun e i wr => ∃ (k : Nat) (v : Int), k ≤ l.length ∧ i = .int .i64 k ∧ e = .int .i64 v ∧ -2000000 ≤ v ∧ v ≤ 2000000 ∧ right s.size v (l.drop k) = right s.size 0 l ∧ ∃ n, wr = w.drewN n)
    (fun _ i _ => l.length - (intOf i).toNat)
  case atStart => exact ⟨0, 0, by omega, rfl, rfl, by omega, by omega, rfl, 0, rfl⟩
  case round =>
    obtain ⟨k, v, hk, rfl, rfl, hv1, hv2, hr, n, rfl⟩ := hrel
    have Hr := Lib.hid hr
    clear hr
    by_cases hlt : k < l.length
    · obtain ⟨b, off, rfl, c1, c2, c3⟩ := hh k l[k] (List.getElem?_eq_getElem hlt)
      obtain ⟨m1, m2, m3, m4, m5⟩ := hl2 k l[k] (List.getElem?_eq_getElem hlt)
      have hd : l.drop k = l[k] :: l.drop (k + 1) := List.drop_eq_getElem_cons hlt
      generalize l[k] = x at *
      have Hd := Lib.hid hd
      clear hd hl2
      have hsi : (0 : Int) ≤ (s.size : Int) := by omega
      by_cases g1 : x.pos < v
      · go_wp2
        go_quiet (fail)
        go_wp2
        go_ret
        exact ⟨by rw [← Hr.out, Hd.out]; simp [right, g1], _, World.drewN_drewN ..⟩
      have d1 : decide (x.pos < v) = false := by simpa using g1
      by_cases g2 : (s.size : Int) < x.pos
      · go_wp2
        go_quiet (fail)
        go_wp2
        go_ret
        exact ⟨by rw [← Hr.out, Hd.out]; simp [right, g2], _, World.drewN_drewN ..⟩
      have d2 : decide ((s.size : Int) < x.pos) = false := by simpa using g2
      by_cases g3 : x.n < 0
      · go_wp2
        go_quiet (fail)
        go_wp2
        go_ret
        exact ⟨by rw [← Hr.out, Hd.out]; simp [right, g3], _, World.drewN_drewN ..⟩
      have d3 : decide (x.n < 0) = false := by simpa using g3
      by_cases g4 : (s.size : Int) - x.pos < x.n
      · go_wp2
        go_quiet (fail)
        go_wp2
        go_ret
        exact ⟨by rw [← Hr.out, Hd.out]; simp [right, g4], _, World.drewN_drewN ..⟩
      have d4 : decide ((s.size : Int) - x.pos < x.n) = false := by simpa using g4
      go_wp2
      go_quiet (fail)
      go_wp2
      go_quiet (fail)
      go_wp2
      go_roundw
      case rel => exact ⟨k + 1, x.pos + x.n, by omega, by go_num, rfl, by omega, by omega, by rw [← Hr.out, Hd.out]; simp [right, g1, g2, g3, g4], _, rfl⟩
      case measure => simp [intOf]; omega
    · obtain rfl : k = l.length := by omega
      go_wp2
      go_ret
      exact ⟨by rw [← Hr.out]; simp [right], _, rfl⟩
end Go.Proofs.YtkfdjffoljkomaaDoor
