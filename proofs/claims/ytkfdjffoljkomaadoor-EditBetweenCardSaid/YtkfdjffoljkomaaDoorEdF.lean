/-
  Walk: what edits make of a text, by the reference.
-/
import Derived.Test.YtkfdjffoljkomaaDoorProg
import Derived.Test.YtkfdjffoljkomaaDoorReg
import Derived.WalkKit
import Derived.WalkSpells
import Derived.WalkLawsBesides
import Derived.Lib.Hide
import Derived.Lib.MinMax
import Derived.Deep.QuietTactic
import Derived.BigQuiet
import Derived.OwnWalk
import Derived.Deep.AppendLies
import Derived.KernelRfl
import Derived.Test.YtkfdjffoljkomaaDoorEdA
import Derived.Test.YtkfdjffoljkomaaDoorEdQ
set_option linter.unusedSimpArgs false
set_option linter.unusedVariables false
namespace Go.Proofs.YtkfdjffoljkomaaDoor
open Go.RowKit

def applyOut (s : ByteArray) (l : List Ed) : Value := if right s.size 0 l = true then .tuple #[.string (applied s l), .int .i64 0] else .tuple #[.string ByteArray.empty, .int .i64 130]
theorem applyOut_no {s : ByteArray} {l : List Ed} (h : right s.size 0 l = false) : applyOut s l = .tuple #[.string ByteArray.empty, .int .i64 130] := by simp [applyOut, h]
theorem applyOut_yes {s : ByteArray} {l : List Ed} (h : right s.size 0 l = true) : applyOut s l = .tuple #[.string (applied s l), .int .i64 0] := by simp [applyOut, h]

set_option maxRecDepth 100000 in
set_option maxHeartbeats 4000000 in
theorem refApply_any (s : ByteArray) (A : Option Addr) (c : Nat) (l : List Ed) (w : World) (hs : s.size ≤ 1000000) (hl : mild l) (hh : Holds w A l) :
    Calls Tryd.prog 17 #[.string s, .slice A l.length c] w fun e w' => e = .returned (applyOut s l) ∧ ∃ n, w' = w.drewN n := by
  have HC := Lib.hid (refRight_any s A c l w hs hl hh)
  obtain ⟨hl1, hl2⟩ := hl
  cases hr : right s.size 0 l with
  | false =>
    have H2 := Lib.hid hr
    rw [hr] at HC
    clear hr
    go_enter Tryd.func17, Tryd.ntmps17
    go_wp2_with (go_at_call 20; refine HC.out.mono ?_; rintro e w' ⟨rfl, n, rfl⟩)
    go_ret2
    exact ⟨by rw [applyOut_no H2.out]; rfl, n, rfl⟩
  | true =>
    have H2 := Lib.hid hr
    rw [hr] at HC
    clear hr
    go_enter Tryd.func17, Tryd.ntmps17
    go_wp2_with (go_at_call 20; refine HC.out.mono ?_; rintro e w' ⟨rfl, n, rfl⟩)
    clear HC
    go_loopw [6, 7, 8] (fun t e i wr => ∃ (k v : Nat) (u : ByteArray), k ≤ l.length ∧ i = .int .i64 k ∧ e = .int .i64 v ∧ t = .string u ∧ v ≤ s.size ∧ right s.size v (l.drop k) = true ∧ u.data.toList ++ applyL s.data.toList v (l.drop k) = applyL s.data.toList 0 l ∧ u.size ≤ v + 1000000 * k ∧ ∃ n, wr = w.drewN n)
      (fun _ _ i _ => l.length - (intOf i).toNat)
    case atStart => exact ⟨0, 0, ByteArray.empty, by omega, rfl, rfl, rfl, by omega, H2.out, rfl, by simp, n, rfl⟩
    case round =>
      obtain ⟨k, v, u, hk, rfl, rfl, rfl, hv, hri, hap, husz, n, rfl⟩ := hrel
      have Hap := Lib.hid hap
      clear hap
      by_cases hlt : k < l.length
      · obtain ⟨b, off, rfl, c1, c2, c3⟩ := hh k l[k] (List.getElem?_eq_getElem hlt)
        obtain ⟨m1, m2, m3, m4, m5⟩ := hl2 k l[k] (List.getElem?_eq_getElem hlt)
        have hd : l.drop k = l[k] :: l.drop (k + 1) := List.drop_eq_getElem_cons hlt
        generalize l[k] = x at *
        rw [hd, right_cons] at hri
        obtain ⟨r1, r2, r3, r4, r5⟩ := hri
        have Hr := Lib.hid r5
        have Hd := Lib.hid hd
        clear hd hl2 r5
        obtain ⟨p, hp⟩ := Int.eq_ofNat_of_zero_le (show 0 ≤ x.pos by omega)
        obtain ⟨m, hm⟩ := Int.eq_ofNat_of_zero_le r3
        rw [hp] at c1 r1 r2 r4
        rw [hm] at c2 r4
        have Hp := Lib.hid hp
        have Hm := Lib.hid hm
        clear hp hm m1 m2 m3 m4 r3
        have q0 : (0 : Int) ≤ (v : Int) := by omega
        go_wp2
        go_quiet (fail)
        go_wp2
        go_quiet (fail)
        go_wp2
        go_roundw
        case rel =>
          have ha := Hap.out
          rw [Hd.out] at ha
          refine ⟨k + 1, p + m, _, by omega, by go_num, by go_num, rfl, by omega, ?_, apply_step s u x _ v p m Hp.out Hm.out _ ha, ?_, _, rfl⟩
          · have := Hr.out
            rw [Hp.out, Hm.out] at this
            exact this
          · have : (s.extract v p).size ≤ p - v := by rw [ByteArray.size_extract]; exact Nat.sub_le_sub_right (Nat.min_le_left _ _) _
            simp only [ByteArray.size_append]
            omega
        case measure => simp [intOf]; omega
      · obtain rfl : k = l.length := by omega
        have q0 : (0 : Int) ≤ (v : Int) := by omega
        go_wp2
        go_ret2
        refine ⟨?_, _, rfl⟩
        rw [applyOut_yes H2.out]
        have ha := Hap.out
        rw [List.drop_of_length_le (Nat.le_refl _)] at ha
        have : u ++ s.extract v s.size = applied s l := bytes_eq (by rw [bytes_app, bytes_ext, applied, ← ha, applyL, List.take_of_length_le (by simp)])
        rw [← this]
        rfl
end Go.Proofs.YtkfdjffoljkomaaDoor
