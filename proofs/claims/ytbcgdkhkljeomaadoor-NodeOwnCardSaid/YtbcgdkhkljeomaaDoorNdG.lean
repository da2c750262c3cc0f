/-
  Are two lists of numbers, two nodes, two lists of nodes, the same? By the program and by the reference.
-/
import Derived.Test.YtbcgdkhkljeomaaDoorProg
import Derived.Test.YtbcgdkhkljeomaaDoorReg
import Derived.WalkKit
import Derived.WalkSpells
import Derived.WalkLawsBesides
import Derived.Lib.Hide
import Derived.Lib.MinMax
import Derived.Deep.QuietTactic
import Derived.BigQuiet
import Derived.OwnWalk
import Derived.Deep.AppendLies
import Derived.KernelRfl
import Derived.Test.YtbcgdkhkljeomaaDoorNdF
set_option linter.unusedSimpArgs false
set_option linter.unusedVariables false
namespace Go.Proofs.YtbcgdkhkljeomaaDoor
open Go.RowKit

theorem get_ne {α : Type} {l m : List α} (h : l.length = m.length) (hn : l ≠ m) : ∃ k, ∃ h1 : k < l.length, ∃ h2 : k < m.length, l[k] ≠ m[k] := by
  apply Classical.byContradiction
  intro hc
  apply hn
  apply List.ext_getElem h
  intro k h1 h2
  apply Classical.byContradiction
  intro he
  exact hc ⟨k, h1, h2, he⟩

set_option maxRecDepth 100000 in
set_option maxHeartbeats 2000000 in
theorem ints_any (A B : Option Addr) (c d : Nat) (l m : List Int) (w : World) (hl : l.length ≤ 1000) (hm : m.length ≤ 1000) (hA : HoldsI w A l) (hB : HoldsI w B m) :
    Calls Tryd.prog 48 #[.slice A l.length c, .slice B m.length d] w fun r w' => r = .returned (.bool (decide (l = m))) ∧ ∃ n, w' = w.drewN n := by
  by_cases hlen : l.length = m.length
  · have Hall : Hid (l.take l.length = m.take l.length → l = m) := Lib.hid (by
      intro h
      rw [List.take_of_length_le (Nat.le_refl _), List.take_of_length_le (by omega)] at h
      exact h)
    have hq : (l.length : Int) = (m.length : Int) := by omega
    go_enter Tryd.func48, Tryd.ntmps48
    go_wp2
    go_loopw [5] (fun i wr => ∃ k : Nat, k ≤ l.length ∧ i = .int .i64 k ∧ l.take k = m.take k ∧ ∃ n, wr = w.drewN n) (fun i _ => l.length - (intOf i).toNat)
    case atStart => exact ⟨0, by omega, rfl, by simp, 0, rfl⟩
    case round =>
      obtain ⟨k, hk, rfl, hr, n, rfl⟩ := hrel
      by_cases hlt : k < l.length
      · have hlt2 : k < m.length := by omega
        obtain ⟨b1, o1, rfl, c1⟩ := hA k l[k] (List.getElem?_eq_getElem hlt)
        obtain ⟨b2, o2, rfl, c2⟩ := hB k m[k] (List.getElem?_eq_getElem hlt2)
        have Hs : Hid (l[k] = m[k] → l.take (k + 1) = m.take (k + 1)) := Lib.hid (fun h => by rw [List.take_succ_eq_append_getElem hlt, List.take_succ_eq_append_getElem hlt2, hr, h])
        have Hn : Hid (l[k] ≠ m[k] → l ≠ m) := Lib.hid (fun h e => h (by subst e; rfl))
        clear hr
        generalize l[k] = x at *
        generalize m[k] = y at *
        have lt2 : (k : Int) < (m.length : Int) := by omega
        by_cases he : x = y
        · have Hz := Lib.hid (Hs.out he)
          subst he
          clear Hs Hn
          go_wp2
          go_quiet (fail)
          go_wp2
          go_roundw
          case rel => exact ⟨k + 1, by omega, by go_num, Hz.out, _, rfl⟩
          case measure => simp [intOf]; omega
        · have Hz := Lib.hid (Hn.out he)
          have q1 : (x == y) = false := by simpa using he
          have q2 : (x != y) = true := by rw [bne, q1]; rfl
          clear Hs Hn he
          go_wp2
          go_quiet (fail)
          go_wp2
          go_ret
          exact ⟨by simp [Hz.out], n + nq, by simp [World.drewN, Nat.add_assoc]⟩
      · obtain rfl : k = l.length := by omega
        have Hz := Lib.hid (Hall.out hr)
        clear hr
        go_wp2
        go_ret
        exact ⟨by simp [Hz.out], _, rfl⟩
  · have hq : ¬ (l.length : Int) = (m.length : Int) := by omega
    have hne : l ≠ m := fun e => hlen (by rw [e])
    have Hne := Lib.hid hne
    have q1 : ((l.length : Int) == (m.length : Int)) = false := by simpa using hq
    have q2 : ((l.length : Int) != (m.length : Int)) = true := by rw [bne, q1]; rfl
    clear hne hlen
    go_enter Tryd.func48, Tryd.ntmps48
    go_wp2
    go_ret
    exact ⟨by simp [Hne.out], 0, rfl⟩

set_option maxRecDepth 100000 in
set_option maxHeartbeats 2000000 in
theorem equal_any (A B : Option Addr) (c d : Nat) (l m : List Int) (w : World) (hl : l.length ≤ 1000) (hm : m.length ≤ 1000) (hA : HoldsI w A l) (hB : HoldsI w B m) :
    Calls Tryd.prog 45 #[.slice A l.length c, .slice B m.length d] w fun r w' => r = .returned (.bool (decide (l = m))) ∧ ∃ n, w' = w.drewN n := by
  by_cases hlen : l.length = m.length
  · have Hall : Hid (l.take l.length = m.take l.length → l = m) := Lib.hid (by
      intro h
      rw [List.take_of_length_le (Nat.le_refl _), List.take_of_length_le (by omega)] at h
      exact h)
    have hq : (l.length : Int) = (m.length : Int) := by omega
    go_enter Tryd.func45, Tryd.ntmps45
    go_wp2
    go_loopw [13] (fun i wr => ∃ k : Nat, k ≤ l.length ∧ i = .int .i64 k ∧ l.take k = m.take k ∧ ∃ n, wr = w.drewN n) (fun i _ => l.length - (intOf i).toNat)
    case atStart => exact ⟨0, by omega, rfl, by simp, 0, rfl⟩
    case round =>
      obtain ⟨k, hk, rfl, hr, n, rfl⟩ := hrel
      by_cases hlt : k < l.length
      · have hlt2 : k < m.length := by omega
        obtain ⟨b1, o1, rfl, c1⟩ := hA k l[k] (List.getElem?_eq_getElem hlt)
        obtain ⟨b2, o2, rfl, c2⟩ := hB k m[k] (List.getElem?_eq_getElem hlt2)
        have Hs : Hid (l[k] = m[k] → l.take (k + 1) = m.take (k + 1)) := Lib.hid (fun h => by rw [List.take_succ_eq_append_getElem hlt, List.take_succ_eq_append_getElem hlt2, hr, h])
        have Hn : Hid (l[k] ≠ m[k] → l ≠ m) := Lib.hid (fun h e => h (by subst e; rfl))
        clear hr
        generalize l[k] = x at *
        generalize m[k] = y at *
        have lt2 : (k : Int) < (m.length : Int) := by omega
        by_cases he : x = y
        · have Hz := Lib.hid (Hs.out he)
          subst he
          clear Hs Hn
          go_wp2
          go_quiet (fail)
          go_wp2
          go_roundw
          case rel => exact ⟨k + 1, by omega, by go_num, Hz.out, _, rfl⟩
          case measure => simp [intOf]; omega
        · have Hz := Lib.hid (Hn.out he)
          have q1 : (x == y) = false := by simpa using he
          have q2 : (x != y) = true := by rw [bne, q1]; rfl
          clear Hs Hn he
          go_wp2
          go_quiet (fail)
          go_wp2
          go_ret
          exact ⟨by simp [Hz.out], n + nq, by simp [World.drewN, Nat.add_assoc]⟩
      · obtain rfl : k = l.length := by omega
        have Hz := Lib.hid (Hall.out hr)
        clear hr
        go_wp2
        go_ret
        exact ⟨by simp [Hz.out], _, rfl⟩
  · have hq : ¬ (l.length : Int) = (m.length : Int) := by omega
    have hne : l ≠ m := fun e => hlen (by rw [e])
    have Hne := Lib.hid hne
    have q1 : ((l.length : Int) == (m.length : Int)) = false := by simpa using hq
    have q2 : ((l.length : Int) != (m.length : Int)) = true := by rw [bne, q1]; rfl
    clear hne hlen
    go_enter Tryd.func45, Tryd.ntmps45
    go_wp2
    go_ret
    exact ⟨by simp [Hne.out], 0, rfl⟩

theorem nd_ext {x y : Nd} : x = y ↔ x.kind = y.kind ∧ x.text = y.text ∧ x.kids = y.kids := by
  cases x; cases y; simp
theorem nd_dec (x y : Nd) : decide (x = y) = (decide (x.kind = y.kind) && (decide (x.text = y.text) && decide (x.kids = y.kids))) := by
  rw [Bool.eq_iff_iff]
  simp [nd_ext]
set_option maxRecDepth 100000 in
set_option maxHeartbeats 2000000 in
theorem sameOne_any (x y : Nd) (B D : Option Addr) (c d : Nat) (w : World) (hl : x.kids.length ≤ 1000) (hm : y.kids.length ≤ 1000) (hB : HoldsI w B x.kids) (hD : HoldsI w D y.kids) :
    Calls Tryd.prog 44 #[x.value B c, y.value D d] w fun r w' => r = .returned (.bool (decide (x = y))) ∧ Below w.heap.size w w' := by
  have HQ := Lib.hid (nd_dec x y)
  generalize decide (x = y) = Q at *
  unfold Nd.value
  have hb1 : Below w.heap.size w ((w.alloc (.cells #[.int .i64 x.kind, .string x.text, .slice B x.kids.length c] 37)).alloc (.cells #[.int .i64 y.kind, .string y.text, .slice D y.kids.length d] 37)) := ((Below.refl _ _).alloc (Nat.le_refl _) _).alloc (by simp) _
  have HE := Lib.hid (equal_any B D c d x.kids y.kids _ hl hm (hB.below hb1) (hD.below hb1))
  have HB1 := Lib.hid hb1
  clear hB hD hb1
  generalize x.kids.length = n1 at *
  generalize y.kids.length = n2 at *
  generalize x.kids = k1 at *
  generalize y.kids = k2 at *
  generalize x.kind = a1 at *
  generalize y.kind = a2 at *
  generalize x.text = t1 at *
  generalize y.text = t2 at *
  go_enter Tryd.func44, Tryd.ntmps44
  by_cases h1 : a1 = a2
  · by_cases h2 : t1 = t2
    · have HQ2 : Hid (Q = decide (k1 = k2)) := Lib.hid (by rw [HQ.out, decide_eq_true h1, decide_eq_true h2]; rfl)
      subst h1
      subst h2
      go_wp2_with fail
      refine HE.out.mono ?_
      rintro e w4 ⟨rfl, n, rfl⟩
      go_wp2
      go_ret
      rw [HQ2.out]
      exact ⟨rfl, below_drewN HB1.out n⟩
    · have HQ2 : Hid (Q = false) := Lib.hid (by rw [HQ.out, decide_eq_false h2]; simp)
      have q2 := bytes_beq_no h2
      subst h1
      go_wp2
      go_ret
      rw [HQ2.out]
      exact ⟨rfl, HB1.out⟩
  · have HQ2 : Hid (Q = false) := Lib.hid (by rw [HQ.out, decide_eq_false h1]; simp)
    have q1 : (a1 == a2) = false := by simpa using h1
    go_wp2
    go_ret
    rw [HQ2.out]
    exact ⟨rfl, HB1.out⟩
set_option maxRecDepth 100000 in
set_option maxHeartbeats 2000000 in
theorem one_any (x y : Nd) (B D : Option Addr) (c d : Nat) (w : World) (hl : x.kids.length ≤ 1000) (hm : y.kids.length ≤ 1000) (hB : HoldsI w B x.kids) (hD : HoldsI w D y.kids) :
    Calls Tryd.prog 35 #[x.value B c, y.value D d] w fun r w' => r = .returned (.bool (decide (x = y))) ∧ Below w.heap.size w w' := by
  have HQ := Lib.hid (nd_dec x y)
  generalize decide (x = y) = Q at *
  unfold Nd.value
  have hb1 : Below w.heap.size w ((w.alloc (.cells #[.int .i64 x.kind, .string x.text, .slice B x.kids.length c] 37)).alloc (.cells #[.int .i64 y.kind, .string y.text, .slice D y.kids.length d] 37)) := ((Below.refl _ _).alloc (Nat.le_refl _) _).alloc (by simp) _
  have HE := Lib.hid (ints_any B D c d x.kids y.kids _ hl hm (hB.below hb1) (hD.below hb1))
  have HB1 := Lib.hid hb1
  clear hB hD hb1
  generalize x.kids.length = n1 at *
  generalize y.kids.length = n2 at *
  generalize x.kids = k1 at *
  generalize y.kids = k2 at *
  generalize x.kind = a1 at *
  generalize y.kind = a2 at *
  generalize x.text = t1 at *
  generalize y.text = t2 at *
  go_enter Tryd.func35, Tryd.ntmps35
  by_cases h1 : a1 = a2
  · by_cases h2 : t1 = t2
    · have HQ2 : Hid (Q = decide (k1 = k2)) := Lib.hid (by rw [HQ.out, decide_eq_true h1, decide_eq_true h2]; rfl)
      subst h1
      subst h2
      go_wp2_with fail
      refine HE.out.mono ?_
      rintro e w4 ⟨rfl, n, rfl⟩
      go_wp2
      go_ret
      rw [HQ2.out]
      exact ⟨rfl, below_drewN HB1.out n⟩
    · have HQ2 : Hid (Q = false) := Lib.hid (by rw [HQ.out, decide_eq_false h2]; simp)
      have q2 := bytes_beq_no h2
      subst h1
      go_wp2
      go_ret
      rw [HQ2.out]
      exact ⟨rfl, HB1.out⟩
  · have HQ2 : Hid (Q = false) := Lib.hid (by rw [HQ.out, decide_eq_false h1]; simp)
    have q1 : (a1 == a2) = false := by simpa using h1
    go_wp2
    go_ret
    rw [HQ2.out]
    exact ⟨rfl, HB1.out⟩
end Go.Proofs.YtbcgdkhkljeomaaDoor
