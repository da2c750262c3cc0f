/-
  Walks: where a place is behind some edits, by the program and by the reference.
-/
import Derived.Test.YtkfdjffoljkomaaDoorProg
import Derived.Test.YtkfdjffoljkomaaDoorReg
import Derived.WalkKit
import Derived.WalkSpells
import Derived.WalkLawsBesides
import Derived.Lib.Hide
import Derived.Lib.MinMax
import Derived.Deep.QuietTactic
import Derived.BigQuiet
import Derived.OwnWalk
import Derived.Deep.AppendLies
import Derived.KernelRfl
import Derived.Test.YtkfdjffoljkomaaDoorEdB
set_option linter.unusedSimpArgs false
set_option linter.unusedVariables false
namespace Go.Proofs.YtkfdjffoljkomaaDoor
open Go.RowKit

set_option maxRecDepth 100000 in
set_option maxHeartbeats 2000000 in
theorem refMoved_any (A : Option Addr) (c : Nat) (l : List Ed) (p : Int) (w : World) (hl : mild l) (hp0 : -10000000 ≤ p) (hp1 : p ≤ 10000000) (hh : Holds w A l) :
    Calls Tryd.prog 21 #[.slice A l.length c, .int .i64 p] w fun e w' => e = .returned (.int .i64 (p + moved p l)) ∧ ∃ n, w' = w.drewN n := by
  obtain ⟨hl1, hl2⟩ := hl
  have hbd := moved_bd p l hl2
  have Hbd := Lib.hid hbd
  clear hbd
  go_enter Tryd.func21, Tryd.ntmps21
  go_wp2
  go_loopw [5, 6] (fun e i wr => ∃ (k : Nat) (v : Int), k ≤ l.length ∧ i = .int .i64 k ∧ e = .int .i64 v ∧ v = moved p (l.take k) ∧ ∃ n, wr = w.drewN n)
    (fun _ i _ => l.length - (intOf i).toNat)
  case atStart => exact ⟨0, 0, by omega, rfl, rfl, rfl, 0, rfl⟩
  case round =>
    obtain ⟨k, v, hk, rfl, rfl, hv, n, rfl⟩ := hrel
    have hb := Hbd.out k hk
    rw [← hv] at hb
    obtain ⟨hb1, hb2⟩ := hb
    have Hv := Lib.hid hv
    clear hv
    by_cases hlt : k < l.length
    · obtain ⟨b, off, rfl, c1, c2, c3⟩ := hh k l[k] (List.getElem?_eq_getElem hlt)
      obtain ⟨m1, m2, m3, m4, m5⟩ := hl2 k l[k] (List.getElem?_eq_getElem hlt)
      have hd := moved_succ p l k hlt
      generalize l[k] = x at *
      have Hd := Lib.hid hd
      clear hd hl2
      by_cases g1 : x.pos + x.n ≤ p
      · go_wp2
        go_quiet (fail)
        go_wp2
        go_quiet (fail)
        go_wp2
        go_roundw
        case rel => exact ⟨k + 1, _, by omega, by go_num, rfl, by rw [Hd.out, ← Hv.out, moved1, if_pos g1]; omega, _, rfl⟩
        case measure => simp [intOf]; omega
      · have d1 : decide (x.pos + x.n ≤ p) = false := by simpa using g1
        go_wp2
        go_quiet (fail)
        go_wp2
        go_roundw
        case rel => exact ⟨k + 1, _, by omega, by go_num, rfl, by rw [Hd.out, ← Hv.out, moved1, if_neg (by omega)]; omega, _, rfl⟩
        case measure => simp [intOf]; omega
    · obtain rfl : k = l.length := by omega
      go_wp2
      go_ret
      exact ⟨by rw [Hv.out, List.take_of_length_le (Nat.le_refl _)]; rfl, _, rfl⟩

set_option maxRecDepth 100000 in
set_option maxHeartbeats 2000000 in
theorem moved_any (A : Option Addr) (c : Nat) (l : List Ed) (p : Int) (w : World) (hl : mild l) (hp0 : -10000000 ≤ p) (hp1 : p ≤ 10000000) (hh : Holds w A l) :
    Calls Tryd.prog 15 #[.slice A l.length c, .int .i64 p] w fun e w' => e = .returned (.int .i64 (p + moved p l)) ∧ Below w.heap.size w w' := by
  obtain ⟨hl1, hl2⟩ := hl
  have hbd := moved_bd p l hl2
  have Hbd := Lib.hid hbd
  clear hbd
  go_enter Tryd.func15, Tryd.ntmps15
  go_wp2
  go_loopw [5, 12] (fun e i wr => ∃ (k : Nat) (v : Int), k ≤ l.length ∧ i = .int .i64 k ∧ e = .int .i64 (p + v) ∧ v = moved p (l.take k) ∧ Below w.heap.size w wr)
    (fun _ i _ => l.length - (intOf i).toNat)
  case atStart => exact ⟨0, 0, by omega, rfl, by simp, rfl, Below.refl _ _⟩
  case round =>
    obtain ⟨k, v, hk, rfl, rfl, hv, hbel⟩ := hrel
    have hb := Hbd.out k hk
    rw [← hv] at hb
    obtain ⟨hb1, hb2⟩ := hb
    have Hv := Lib.hid hv
    clear hv
    by_cases hlt : k < l.length
    · obtain ⟨b, off, rfl, c1, c2, c3⟩ := (hh.below hbel) k l[k] (List.getElem?_eq_getElem hlt)
      obtain ⟨m1, m2, m3, m4, m5⟩ := hl2 k l[k] (List.getElem?_eq_getElem hlt)
      have hd := moved_succ p l k hlt
      generalize l[k] = x at *
      have Hd := Lib.hid hd
      clear hd hl2
      have hbz := hbel.size
      have hsz : x.s.toList = [] → x.s.size = 0 := fun h => by
        have : x.s.toList.length = 0 := by rw [h]; rfl
        simpa [ByteArray.toList_eq] using this
      have Hsz := Lib.hid hsz
      clear hsz
      go_wp2
      all_goals
        go_roundw
        case rel =>
          refine ⟨k + 1, v + moved1 p x, by omega, by go_num, ?_, by rw [Hd.out, ← Hv.out], (hbel.alloc hbz _).alloc (by simp; omega) _⟩
          congr 1
          unfold moved1
          first
            | (have h0 := Hsz.out (by assumption); split <;> omega)
            | (split <;> omega)
        case measure => simp [intOf]; omega
    · obtain rfl : k = l.length := by omega
      go_wp2
      go_ret
      exact ⟨by rw [Hv.out, List.take_of_length_le (Nat.le_refl _)]; rfl, hbel⟩
end Go.Proofs.YtkfdjffoljkomaaDoor
