/-
  Walks of layer 16's reference: are two lists the same.
-/
import Derived.Test.YtkfdjffoljkomaaDoorProg
import Derived.Test.YtkfdjffoljkomaaDoorReg
import Derived.WalkKit
import Derived.WalkSpells
import Derived.WalkLawsBesides
import Derived.Lib.Hide
import Derived.Lib.MinMax
import Derived.Deep.QuietTactic
import Derived.BigQuiet
import Derived.OwnWalk
import Derived.Deep.AppendLies
import Derived.KernelRfl
import Derived.Test.YtkfdjffoljkomaaDoorEdP
set_option linter.unusedSimpArgs false
set_option linter.unusedVariables false
namespace Go.Proofs.YtkfdjffoljkomaaDoor
open Go.RowKit

theorem run_neq_ed (x y : Ed) (w : World) : (binOp .neq 35 (.agg #[.int .i64 x.pos, .int .i64 x.n, .string x.s]) (.agg #[.int .i64 y.pos, .int .i64 y.n, .string y.s])).run Tryd.prog w = .ok (.bool (!decide (x = y))) w := by
  obtain ⟨a, b, c⟩ := x
  obtain ⟨a', b', c'⟩ := y
  simp only [run_neq_struct]
  by_cases h1 : a = a'
  · by_cases h2 : b = b'
    · by_cases h3 : c = c'
      · simp [go_sem, h1, h2, h3]
      · simp [go_sem, h1, h2, h3, bytes_beq]
    · simp [go_sem, h1, h2]
  · simp [go_sem, h1]

theorem run_eql_ed (x y : Ed) (w : World) : (binOp .eql 35 (.agg #[.int .i64 x.pos, .int .i64 x.n, .string x.s]) (.agg #[.int .i64 y.pos, .int .i64 y.n, .string y.s])).run Tryd.prog w = .ok (.bool (decide (x = y))) w := by
  obtain ⟨a, b, c⟩ := x
  obtain ⟨a', b', c'⟩ := y
  simp only [run_eql_struct]
  by_cases h1 : a = a'
  · by_cases h2 : b = b'
    · by_cases h3 : c = c'
      · simp [go_sem, h1, h2, h3]
      · simp [go_sem, h1, h2, h3, bytes_beq]
    · simp [go_sem, h1, h2]
  · simp [go_sem, h1]

set_option maxHeartbeats 1000000 in
theorem refSame_any (A B : Option Addr) (c d : Nat) (l m : List Ed) (w : World) (hl : l.length ≤ 1000000) (hm : m.length ≤ 1000000) (hA : Holds w A l) (hB : Holds w B m) :
    Calls Tryd.prog 14 #[.slice A l.length c, .slice B m.length d] w fun e w' => e = .returned (.bool (decide (l = m))) ∧ ∃ n, w' = w.drewN n := by
  by_cases hlen : l.length = m.length
  · have hq : ((l.length : Int) != (m.length : Int)) = false := by simp [hlen]
    have Hlen := Lib.hid hlen
    clear hlen
    go_enter Tryd.func14, Tryd.ntmps14
    go_wp2
    go_loopw [5] (fun i wr => ∃ (k : Nat), k ≤ l.length ∧ i = .int .i64 k ∧ (l.take k = m.take k) ∧ ∃ n, wr = w.drewN n)
      (fun i _ => l.length - (intOf i).toNat)
    case atStart => exact ⟨0, by omega, rfl, rfl, 0, rfl⟩
    case round =>
      obtain ⟨k, hk, rfl, hr, n, rfl⟩ := hrel
      have Hr := Lib.hid hr
      clear hr
      by_cases hlt : k < l.length
      · have hlt2 : k < m.length := by rw [← Hlen.out]; exact hlt
        obtain ⟨b, off, rfl, c1, c2, c3⟩ := hA k l[k] (List.getElem?_eq_getElem hlt)
        obtain ⟨b2, off2, rfl, e1, e2, e3⟩ := hB k m[k] (List.getElem?_eq_getElem hlt2)
        generalize hx : l[k] = x at *
        generalize hy : m[k] = y at *
        have Hx := Lib.hid hx
        have Hy := Lib.hid hy
        clear hx hy
        by_cases hxy : x = y
        · have hne : ∀ W, (binOp .neq 35 (.agg #[.int .i64 x.pos, .int .i64 x.n, .string x.s]) (.agg #[.int .i64 y.pos, .int .i64 y.n, .string y.s])).run Tryd.prog W = .ok (.bool false) W := fun W => by rw [run_neq_ed]; simp [hxy]
          have Hxy := Lib.hid hxy
          clear hxy
          go_wp2
          go_quiet (fail)
          go_wp2
          go_roundw
          case rel => exact ⟨k + 1, by omega, by go_num, by rw [List.take_succ_eq_append_getElem hlt, List.take_succ_eq_append_getElem hlt2, Hr.out, Hx.out, Hy.out, Hxy.out], _, rfl⟩
          case measure => simp [intOf]; omega
        · have hne : ∀ W, (binOp .neq 35 (.agg #[.int .i64 x.pos, .int .i64 x.n, .string x.s]) (.agg #[.int .i64 y.pos, .int .i64 y.n, .string y.s])).run Tryd.prog W = .ok (.bool true) W := fun W => by rw [run_neq_ed]; simp [hxy]
          have Hxy := Lib.hid hxy
          clear hxy
          go_wp2
          go_quiet (fail)
          go_wp2
          go_ret
          refine ⟨?_, _, World.drewN_drewN ..⟩
          have : l ≠ m := by
            rintro rfl
            exact Hxy.out (by rw [← Hx.out, ← Hy.out])
          simp [this]
      · obtain rfl : k = l.length := by omega
        go_wp2
        go_ret
        refine ⟨?_, _, rfl⟩
        have h1 := Hr.out
        have h2 := Hlen.out
        rw [List.take_of_length_le (Nat.le_refl _), List.take_of_length_le (by omega)] at h1
        simp [h1]
  · have hq : ((l.length : Int) != (m.length : Int)) = true := by simp; omega
    have Hlen := Lib.hid hlen
    clear hlen
    go_enter Tryd.func14, Tryd.ntmps14
    go_wp2
    go_ret
    refine ⟨?_, 0, rfl⟩
    have : l ≠ m := by rintro rfl; exact Hlen.out rfl
    simp [this]
end Go.Proofs.YtkfdjffoljkomaaDoor
