/-
  Are two lists of tokens the same; are two brackets of one kind: by the document's program text.
-/
import Derived.Test.YtlokkdbgihbnhabDoorProg
import Derived.Test.YtlokkdbgihbnhabDoorReg
import Derived.WalkKit
import Derived.WalkSpells
import Derived.WalkLawsBesides
import Derived.Lib.Hide
import Derived.Lib.MinMax
import Derived.Deep.QuietTactic
import Derived.BigQuiet
import Derived.OwnWalk
import Derived.Deep.AppendLies
import Derived.KernelRfl
import Derived.Test.YtlokkdbgihbnhabDoorGrpB
import Derived.Test.YtlokkdbgihbnhabDoorGrpG
set_option linter.unusedSimpArgs false
set_option linter.unusedVariables false
namespace Go.Proofs.YtlokkdbgihbnhabDoor
open Go.RowKit

theorem Tok.ne_ways {x y : Tok} (h : x ≠ y) : x.kind ≠ y.kind ∨ (x.kind = y.kind ∧ x.text ≠ y.text) ∨ (x.kind = y.kind ∧ x.text = y.text ∧ x.glyph ≠ y.glyph) := by
  by_cases h1 : x.kind = y.kind
  · by_cases h2 : x.text = y.text
    · refine Or.inr (Or.inr ⟨h1, h2, fun h3 => h ?_⟩)
      cases x; cases y
      simp only at h1 h2 h3
      subst h1 h2 h3
      rfl
    · exact Or.inr (Or.inl ⟨h1, h2⟩)
  · exact Or.inl h1

set_option maxRecDepth 100000 in
set_option maxHeartbeats 2000000 in
theorem same_any (A B : Option Addr) (c d : Nat) (l m : List Tok) (w : World) (hl : l.length ≤ 1000000) (hm : m.length ≤ 1000000) (hA : HoldsT w A l) (hB : HoldsT w B m) :
    Calls Tryd.prog 8 #[.slice A l.length c, .slice B m.length d] w fun r w' => r = .returned (.bool (decide (l = m))) ∧ ∃ n, w' = w.drewN n := by
  by_cases hlen : l.length = m.length
  · have Hall : Hid (l.take l.length = m.take l.length → l = m) := Lib.hid (by
      intro h
      rw [List.take_of_length_le (Nat.le_refl _), List.take_of_length_le (by omega)] at h
      exact h)
    have hq : (l.length : Int) = (m.length : Int) := by omega
    go_enter Tryd.func8, Tryd.ntmps8
    go_wp2
    go_loopw [5] (fun i wr => ∃ k : Nat, k ≤ l.length ∧ i = .int .i64 k ∧ l.take k = m.take k ∧ ∃ n, wr = w.drewN n) (fun i _ => l.length - (intOf i).toNat)
    case atStart => exact ⟨0, by omega, rfl, by simp, 0, rfl⟩
    case round =>
      obtain ⟨k, hk, rfl, hr, n, rfl⟩ := hrel
      by_cases hlt : k < l.length
      · have hlt2 : k < m.length := by omega
        obtain ⟨b1, o1, rfl, c1, c2, c3⟩ := hA k l[k] (List.getElem?_eq_getElem hlt)
        obtain ⟨b2, o2, rfl, d1, d2, d3⟩ := hB k m[k] (List.getElem?_eq_getElem hlt2)
        have Hs : Hid (l[k] = m[k] → l.take (k + 1) = m.take (k + 1)) := Lib.hid (fun h => by rw [List.take_succ_eq_append_getElem hlt, List.take_succ_eq_append_getElem hlt2, hr, h])
        have Hn : Hid (l[k] ≠ m[k] → l ≠ m) := Lib.hid (fun h e => h (by subst e; rfl))
        clear hr
        generalize l[k] = x at *
        generalize m[k] = y at *
        have lt2 : (k : Int) < (m.length : Int) := by omega
        by_cases he : x = y
        · have Hz := Lib.hid (Hs.out he)
          subst he
          have q2 := bytes_beq_yes (rfl : x.text = x.text)
          have q3 := bytes_beq_yes (rfl : x.glyph = x.glyph)
          clear Hs Hn
          go_wp2
          go_quiet (fail)
          go_wp2
          go_roundw
          case rel => exact ⟨k + 1, by omega, by go_num, Hz.out, _, rfl⟩
          case measure => simp [intOf]; omega
        · have Hz := Lib.hid (Hn.out he)
          have hw := Tok.ne_ways he
          clear Hs Hn he
          rcases hw with h1 | ⟨h1, h2⟩ | ⟨h1, h2, h3⟩
          · have q1 : (x.kind == y.kind) = false := by simpa using h1
            have q2 : (x.kind != y.kind) = true := by rw [bne, q1]; rfl
            clear h1
            go_wp2
            go_quiet (fail)
            go_wp2
            go_ret
            exact ⟨by simp [Hz.out], n + nq, by simp [World.drewN, Nat.add_assoc]⟩
          · have q1 : (x.kind == y.kind) = true := by simpa using h1
            have q2 := bytes_beq_no h2
            clear h2
            go_wp2
            go_quiet (fail)
            go_wp2
            go_ret
            exact ⟨by simp [Hz.out], n + nq, by simp [World.drewN, Nat.add_assoc]⟩
          · have q1 : (x.kind == y.kind) = true := by simpa using h1
            have q2 := bytes_beq_yes h2
            have q3 := bytes_beq_no h3
            clear h2 h3
            go_wp2
            go_quiet (fail)
            go_wp2
            go_ret
            exact ⟨by simp [Hz.out], n + nq, by simp [World.drewN, Nat.add_assoc]⟩
      · obtain rfl : k = l.length := by omega
        have Hz := Lib.hid (Hall.out hr)
        clear hr
        go_wp2
        go_ret
        exact ⟨by simp [Hz.out], _, rfl⟩
  · have hq : ¬ (l.length : Int) = (m.length : Int) := by omega
    have hne : l ≠ m := fun e => hlen (by rw [e])
    have Hne := Lib.hid hne
    have q1 : ((l.length : Int) == (m.length : Int)) = false := by simpa using hq
    have q2 : ((l.length : Int) != (m.length : Int)) = true := by rw [bne, q1]; rfl
    clear hne hlen
    go_enter Tryd.func8, Tryd.ntmps8
    go_wp2
    go_ret
    exact ⟨by simp [Hne.out], 0, rfl⟩

end Go.Proofs.YtlokkdbgihbnhabDoor
