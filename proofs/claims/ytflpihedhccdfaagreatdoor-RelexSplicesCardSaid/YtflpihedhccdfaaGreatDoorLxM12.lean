/-
  The walks of 'Text', of both.
-/
import Derived.Test.YtflpihedhccdfaaGreatDoorProg
import Derived.Test.YtflpihedhccdfaaGreatDoorReg
import Derived.WalkKit
import Derived.WalkSpells
import Derived.WalkLawsBesides
import Derived.Lib.Hide
import Derived.Lib.MinMax
import Derived.Deep.QuietTactic
import Derived.BigQuiet
import Derived.OwnWalk
import Derived.Deep.AppendLies
import Derived.KernelRfl
import Derived.Test.YtflpihedhccdfaaGreatDoorLxM11
set_option linter.unusedSimpArgs false
set_option linter.unusedVariables false
namespace Go.Proofs.YtflpihedhccdfaaGreatDoor
open Go.RowKit Go.Maps

theorem textOf_snoc {l : List Tok} {k : Nat} {x : Tok} (h : l[k]? = some x) : textOf (l.take (k + 1)) = textOf (l.take k) ++ x.text := by
  rw [take_one h]
  unfold textOf
  rw [List.foldl_append]
  rfl
theorem textOf_le (l : List Tok) (k : Nat) : (textOf (l.take k)).size ≤ (textOf l).size := by
  have h : textOf l = textOf (l.take k) ++ textOf (l.drop k) := by
    conv => lhs; rw [← List.take_append_drop k l]
    unfold textOf
    rw [List.foldl_append]
    exact textOf_from _ _
  rw [h, ByteArray.size_append]
  omega

set_option maxRecDepth 100000 in
set_option maxHeartbeats 4000000 in
theorem refText_any (l : List Tok) (A : Option Addr) (c : Nat) (w : World) (hl : l.length ≤ 100000) (hz : (textOf l).size ≤ 1000000) (hA : HoldsT w A l) :
    Calls Tryz.prog 25 #[.slice A l.length c] w fun e w' => e = .returned (.string (textOf l)) ∧ w' = w := by
  have HA := Lib.hid hA
  have HZ := Lib.hid (textOf_le l)
  clear hA
  go_enter Tryz.func25, Tryz.ntmps25
  go_wp2_with fail
  go_loop [3, 4] (fun v i => ∃ (k : Nat) (t : ByteArray), i = .int .i64 k ∧ v = .string t ∧ k ≤ l.length ∧ Hid (t = textOf (l.take k))) (fun _ i => l.length - (intOf i).toNat)
  case atStart => exact ⟨0, _, rfl, rfl, Nat.zero_le _, Lib.hid rfl⟩
  case round =>
    obtain ⟨k, t, rfl, rfl, hk, HT⟩ := hrel
    by_cases hlt : k < l.length
    · have ga := List.getElem?_eq_getElem (l := l) (i := k) hlt
      have HS := Lib.hid (textOf_snoc ga)
      have h1 := HZ.out (k + 1)
      rw [HS.out, ← HT.out, ByteArray.size_append] at h1
      generalize l[k]'hlt = x at *
      obtain ⟨b, off, rfl, d0, d1, d2⟩ := HA.out k x ga
      have HT2 : Hid (t ++ x.text = textOf (l.take (k + 1))) := Lib.hid (by rw [HS.out, ← HT.out])
      clear ga
      go_wp2_with fail
      go_round
      case rel => exact ⟨k + 1, _, by go_num, rfl, by omega, HT2⟩
      case measure => simp [intOf]; omega
    · obtain rfl : k = l.length := by omega
      have HT2 : Hid (t = textOf l) := Lib.hid (by rw [HT.out, List.take_of_length_le (Nat.le_refl _)])
      go_wp2_with fail
      go_ret
      exact ⟨by rw [← HT2.out]; rfl, rfl⟩

end Go.Proofs.YtflpihedhccdfaaGreatDoor
