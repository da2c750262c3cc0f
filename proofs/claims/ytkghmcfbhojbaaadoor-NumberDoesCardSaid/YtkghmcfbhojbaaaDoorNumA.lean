/-
  The small functions of layer 10: must, bit, size.
-/
import Derived.Test.YtkghmcfbhojbaaaDoorProg
import Derived.Test.YtkghmcfbhojbaaaDoorReg
import Derived.WalkKit
import Derived.WalkSpells
import Derived.WalkLawsBesides
import Derived.Lib.Hide
import Derived.Lib.MinMax
import Derived.Deep.QuietTactic
import Derived.BigQuiet
import Derived.OwnWalk
import Derived.Deep.AppendLies
import Derived.KernelRfl
set_option linter.unusedSimpArgs false
set_option linter.unusedVariables false
namespace Go.Proofs.YtkghmcfbhojbaaaDoor
open Go.RowKit

/-- What 'must' tells. -/
def mustOut (n : Int) (e : Value) (ok : Bool) : Value := if ok then .tuple #[.int .i64 n, .nilIface] else .tuple #[.int .i64 0, e]

set_option maxRecDepth 100000 in
set_option maxHeartbeats 2000000 in
theorem must_any (n : Int) (e : Value) (b off c : Nat) (l : List Bool) (w : World) (hl : l.length ≤ 1000)
    (hh : ∀ (k : Nat) (x : Bool), l[k]? = some x → w.cell? ⟨b, off + k, none⟩ = some (.bool x)) :
    Calls Tryd.prog 50 #[.int .i64 n, e, .slice (some ⟨b, off, none⟩) l.length c] w fun r w' => r = .returned (mustOut n e (l.all id)) ∧ w' = w := by
  go_enter Tryd.func50, Tryd.ntmps50
  go_wp2
  go_loop [12] (fun i => ∃ k : Nat, k ≤ l.length ∧ i = .int .i64 k ∧ (l.take k).all id = true) (fun i => l.length - (intOf i).toNat)
  case atStart => exact ⟨0, by omega, rfl, by simp⟩
  case round =>
    obtain ⟨k, hk, rfl, hr⟩ := hrel
    by_cases hlt : k < l.length
    · have hc := hh k l[k] (List.getElem?_eq_getElem hlt)
      have Hr := Lib.hid hr
      have Hx := Lib.hid (show l.all id = true → l[k] = true from fun h => List.all_eq_true.1 h _ (List.getElem_mem hlt))
      have Hn := Lib.hid (show l[k] = true → (l.take (k + 1)).all id = true from fun h => by rw [List.take_succ_eq_append_getElem hlt, List.all_append, hr]; simp [h])
      clear hr hh
      generalize l[k] = x at *
      cases x with
      | true =>
        go_wp2
        go_round
        case rel => exact ⟨k + 1, by omega, by go_num, Hn.out rfl⟩
        case measure => simp [intOf]; omega
      | false =>
        have Hf : l.all id = false := by
          cases h : l.all id with
          | false => rfl
          | true => exact absurd (Hx.out h) (by simp)
        go_wp2
        go_ret2
        exact ⟨by (try rw [Hf]); rfl, rfl⟩
    · obtain rfl : k = l.length := by omega
      rw [List.take_length] at hr
      have Hr := Lib.hid hr
      clear hr hh
      go_wp2
      go_ret2
      exact ⟨by have := Hr.out; (try rw [this]); rfl, rfl⟩

/-- At a list that has just been made. -/
theorem must1 (n : Int) (e : Value) (b c : Nat) (x : Bool) (t : TypeId) (w : World) (h : b = w.heap.size) :
    Calls Tryd.prog 50 #[.int .i64 n, e, .slice (some ⟨b, 0, none⟩) 1 c] (w.alloc (.cells #[.bool x] t)) fun r w' => r = .returned (.tuple #[.int .i64 (if x then n else 0), if x then .nilIface else e]) ∧ w' = w.alloc (.cells #[.bool x] t) :=
  (must_any n e b 0 c [x] (w.alloc (.cells #[.bool x] t)) (by simp) (by
    subst h
    intro k y hk
    cases k with
    | zero => simp at hk; subst hk; simp
    | succ k => simp at hk)).mono fun r w' ⟨h1, h2⟩ => ⟨by rw [h1]; cases x <;> rfl, h2⟩
theorem must2 (n : Int) (e : Value) (b c : Nat) (x y : Bool) (t : TypeId) (w : World) (h : b = w.heap.size) :
    Calls Tryd.prog 50 #[.int .i64 n, e, .slice (some ⟨b, 0, none⟩) 2 c] (w.alloc (.cells #[.bool x, .bool y] t)) fun r w' => r = .returned (.tuple #[.int .i64 (if x && y then n else 0), if x && y then .nilIface else e]) ∧ w' = w.alloc (.cells #[.bool x, .bool y] t) :=
  (must_any n e b 0 c [x, y] (w.alloc (.cells #[.bool x, .bool y] t)) (by simp) (by
    subst h
    intro k z hk
    match k, hk with
    | 0, hk => simp at hk; subst hk; simp
    | 1, hk => simp at hk; subst hk; simp
    | k + 2, hk => simp at hk)).mono fun r w' ⟨h1, h2⟩ => ⟨by rw [h1]; cases x <;> cases y <;> rfl, h2⟩

theorem must1w (n : Int) (e : Value) (b c : Nat) (x : Bool) (w : World) (h : w.cell? ⟨b, 0, none⟩ = some (.bool x)) :
    Calls Tryd.prog 50 #[.int .i64 n, e, .slice (some ⟨b, 0, none⟩) 1 c] w fun r w' => r = .returned (.tuple #[.int .i64 (if x then n else 0), if x then .nilIface else e]) ∧ w' = w :=
  (must_any n e b 0 c [x] w (by simp) (by
    intro k y hk
    cases k with
    | zero => simp at hk; subst hk; simpa using h
    | succ k => simp at hk)).mono fun r w' ⟨h1, h2⟩ => ⟨by rw [h1]; cases x <;> rfl, h2⟩

theorem bit_any (x : Bool) (w : World) : Calls Tryd.prog 47 #[.bool x] w fun r w' => r = .returned (.int .i64 (if x then 1 else 0)) ∧ w' = w := by
  go_enter Tryd.func47, Tryd.ntmps47
  cases x with
  | true =>
    go_wp2
    go_ret
    exact ⟨rfl, rfl⟩
  | false =>
    go_wp2
    go_ret
    exact ⟨rfl, rfl⟩
end Go.Proofs.YtkghmcfbhojbaaaDoor
