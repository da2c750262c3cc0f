/-
  The walks of 'Same', of both.
-/
import Derived.Test.YteojnejomgomjaaDoorProg
import Derived.Test.YteojnejomgomjaaDoorReg
import Derived.WalkKit
import Derived.WalkSpells
import Derived.WalkLawsBesides
import Derived.Lib.Hide
import Derived.Lib.MinMax
import Derived.Deep.QuietTactic
import Derived.BigQuiet
import Derived.OwnWalk
import Derived.Deep.AppendLies
import Derived.KernelRfl
import Derived.Test.YteojnejomgomjaaDoorLxB
set_option linter.unusedSimpArgs false
set_option linter.unusedVariables false
namespace Go.Proofs.YteojnejomgomjaaDoor
open Go.RowKit Go.Maps

theorem toks_eq {a b : List Tok} (hl : a.length = b.length) (h : ∀ k : Nat, k < a.length → a[k]? = b[k]?) : a = b := by
  refine List.ext_getElem? fun k => ?_
  by_cases hk : k < a.length
  · exact h k hk
  · rw [List.getElem?_eq_none (by omega), List.getElem?_eq_none (by omega)]
/-- How two tokens compare, part by part. -/
theorem tok_ways (x y : Tok) : x = y ∨ (x ≠ y ∧ (x.kind == y.kind) = false) ∨ (x ≠ y ∧ (x.kind == y.kind) = true ∧ (x.text.toList == y.text.toList) = false) ∨ (x ≠ y ∧ (x.kind == y.kind) = true ∧ (x.text.toList == y.text.toList) = true ∧ (x.glyph.toList == y.glyph.toList) = false) := by
  by_cases h : x = y
  · exact .inl h
  · by_cases h1 : x.kind = y.kind
    · by_cases h2 : x.text = y.text
      · refine .inr (.inr (.inr ⟨h, by simpa using h1, bytes_beq_yes h2, bytes_beq_no (fun h3 => h ?_)⟩))
        obtain ⟨a, b, c⟩ := x
        obtain ⟨a', b', c'⟩ := y
        simp only at h1 h2 h3
        subst h1 h2 h3
        rfl
      · exact .inr (.inr (.inl ⟨h, by simpa using h1, bytes_beq_no h2⟩))
    · exact .inr (.inl ⟨h, by simpa using h1⟩)

set_option maxRecDepth 100000 in
set_option maxHeartbeats 8000000 in
theorem Same_any (a b : List Tok) (A C : Option Addr) (c d : Nat) (w : World) (ha : a.length ≤ 1000000) (hb : b.length ≤ 1000000) (hA : HoldsT w A a) (hC : HoldsT w C b) :
    Calls Tryd.prog 14 #[.slice A a.length c, .slice C b.length d] w fun e w' => e = .returned (.bool (decide (a = b))) ∧ Below w.heap.size w w' := by
  have HA := Lib.hid hA
  have HC := Lib.hid hC
  clear hA hC
  by_cases hl : a.length = b.length
  · have ql : ((a.length : Int) == (b.length : Int)) = true := by rw [hl]; simp
    have ql2 : ((a.length : Int) != (b.length : Int)) = false := by rw [bne, ql]; rfl
    have HL := Lib.hid hl
    have hl2 : b.length ≤ a.length := by omega
    have hl3 : a.length ≤ b.length := by omega
    clear hl
    go_enter Tryd.func14, Tryd.ntmps14
    go_wp2_with fail
    go_loopw [14] (fun i wr => ∃ (k : Nat), i = .int .i64 k ∧ k ≤ a.length ∧ Hid (∀ j : Nat, j < k → a[j]? = b[j]?) ∧ Hid (Below w.heap.size w wr)) (fun i _ => a.length - (intOf i).toNat)
    case atStart => exact ⟨0, rfl, Nat.zero_le _, Lib.hid (fun j hj => by omega), Lib.hid (Below.refl _ _)⟩
    case round =>
      obtain ⟨k, rfl, hk, HP, HB⟩ := hrel
      by_cases hlt : k < a.length
      · have ga := List.getElem?_eq_getElem (l := a) (i := k) hlt
        have gb := List.getElem?_eq_getElem (l := b) (i := k) (by omega)
        generalize a[k]'hlt = x at *
        generalize b[k]'(by omega) = y at *
        obtain ⟨b1, off1, rfl, d0, d1, d2⟩ := (HA.out.below HB.out) k x ga
        obtain ⟨b2, off2, rfl, f0, f1, f2⟩ := (HC.out.below HB.out) k y gb
        have hsz := HB.out.size
        have l1 := cell_lt d0
        have l2 := cell_lt f0
        have i0 : (0 : Int) ≤ (k : Int) := by omega
        have i1 : (k : Int) < (a.length : Int) := by omega
        have i2 : (k : Int) < (b.length : Int) := by omega
        have hlt2 : k < b.length := by omega
        simp only at l1 l2
        have HPN : Hid (x = y → ∀ j : Nat, j < k + 1 → a[j]? = b[j]?) := Lib.hid (fun e j hj => by
          by_cases hjk : j = k
          · subst hjk; rw [ga, gb, e]
          · exact HP.out j (by omega))
        have HNE : Hid (x ≠ y → a ≠ b) := Lib.hid (fun hne e => hne (by rw [e, gb] at ga; exact (Option.some.inj ga).symm))
        clear ga gb
        rcases tok_ways x y with rfl | ⟨hne, q0⟩ | ⟨hne, q0, q1⟩ | ⟨hne, q0, q1, q2⟩
        · have HP2 := Lib.hid (HPN.out rfl)
          clear HPN HNE
          have q0 : (x.kind == x.kind) = true := by simp
          have q1 := bytes_beq_yes (rfl : x.text = x.text)
          have q2 := bytes_beq_yes (rfl : x.glyph = x.glyph)
          go_wp2_with fail
          go_quiet (fail)
          go_wp2_with fail
          go_roundw
          case rel => exact ⟨k + 1, by go_num, by omega, HP2, Lib.hid (below_drewN (HB.out.alloc (by omega) _) _)⟩
          case measure => simp [intOf]; omega
        all_goals
          have HE : Hid (decide (a = b) = false) := Lib.hid (by simpa using HNE.out hne)
          clear HPN HNE hne
          go_wp2_with fail
          go_quiet (fail)
          go_wp2_with fail
          go_ret
          exact ⟨by rw [HE.out]; rfl, below_drewN (HB.out.alloc (by omega) _) _⟩
      · obtain rfl : k = a.length := by omega
        have HE : Hid (decide (a = b) = true) := Lib.hid (by simpa using toks_eq HL.out HP.out)
        go_wp2_with fail
        go_ret
        exact ⟨by rw [HE.out]; rfl, HB.out⟩
  · have ql : ((a.length : Int) == (b.length : Int)) = false := by simp; omega
    have ql2 : ((a.length : Int) != (b.length : Int)) = true := by rw [bne, ql]; rfl
    have HE : Hid (decide (a = b) = false) := Lib.hid (by simpa using fun e => hl (by rw [e]))
    clear hl
    go_enter Tryd.func14, Tryd.ntmps14
    go_wp2_with fail
    go_ret
    exact ⟨by rw [HE.out]; rfl, Below.refl _ _⟩

set_option maxRecDepth 100000 in
set_option maxHeartbeats 8000000 in
theorem refSame_any (a b : List Tok) (A C : Option Addr) (c d : Nat) (w : World) (ha : a.length ≤ 1000000) (hb : b.length ≤ 1000000) (hA : HoldsT w A a) (hC : HoldsT w C b) :
    Calls Tryd.prog 19 #[.slice A a.length c, .slice C b.length d] w fun e w' => e = .returned (.bool (decide (a = b))) ∧ Below w.heap.size w w' := by
  have HA := Lib.hid hA
  have HC := Lib.hid hC
  clear hA hC
  by_cases hl : a.length = b.length
  · have ql : ((a.length : Int) == (b.length : Int)) = true := by rw [hl]; simp
    have ql2 : ((a.length : Int) != (b.length : Int)) = false := by rw [bne, ql]; rfl
    have HL := Lib.hid hl
    have hl2 : b.length ≤ a.length := by omega
    have hl3 : a.length ≤ b.length := by omega
    clear hl
    go_enter Tryd.func19, Tryd.ntmps19
    go_wp2_with fail
    go_loopw [5] (fun i wr => ∃ (k : Nat), i = .int .i64 k ∧ k ≤ a.length ∧ Hid (∀ j : Nat, j < k → a[j]? = b[j]?) ∧ Hid (Below w.heap.size w wr)) (fun i _ => a.length - (intOf i).toNat)
    case atStart => exact ⟨0, rfl, Nat.zero_le _, Lib.hid (fun j hj => by omega), Lib.hid (Below.refl _ _)⟩
    case round =>
      obtain ⟨k, rfl, hk, HP, HB⟩ := hrel
      by_cases hlt : k < a.length
      · have ga := List.getElem?_eq_getElem (l := a) (i := k) hlt
        have gb := List.getElem?_eq_getElem (l := b) (i := k) (by omega)
        generalize a[k]'hlt = x at *
        generalize b[k]'(by omega) = y at *
        obtain ⟨b1, off1, rfl, d0, d1, d2⟩ := (HA.out.below HB.out) k x ga
        obtain ⟨b2, off2, rfl, f0, f1, f2⟩ := (HC.out.below HB.out) k y gb
        have hsz := HB.out.size
        have l1 := cell_lt d0
        have l2 := cell_lt f0
        have i0 : (0 : Int) ≤ (k : Int) := by omega
        have i1 : (k : Int) < (a.length : Int) := by omega
        have i2 : (k : Int) < (b.length : Int) := by omega
        have hlt2 : k < b.length := by omega
        simp only at l1 l2
        have HPN : Hid (x = y → ∀ j : Nat, j < k + 1 → a[j]? = b[j]?) := Lib.hid (fun e j hj => by
          by_cases hjk : j = k
          · subst hjk; rw [ga, gb, e]
          · exact HP.out j (by omega))
        have HNE : Hid (x ≠ y → a ≠ b) := Lib.hid (fun hne e => hne (by rw [e, gb] at ga; exact (Option.some.inj ga).symm))
        clear ga gb
        rcases tok_ways x y with rfl | ⟨hne, q0⟩ | ⟨hne, q0, q1⟩ | ⟨hne, q0, q1, q2⟩
        · have HP2 := Lib.hid (HPN.out rfl)
          clear HPN HNE
          have q0 : (x.kind == x.kind) = true := by simp
          have q1 := bytes_beq_yes (rfl : x.text = x.text)
          have q2 := bytes_beq_yes (rfl : x.glyph = x.glyph)
          go_wp2_with fail
          go_quiet (fail)
          go_wp2_with fail
          go_roundw
          case rel => exact ⟨k + 1, by go_num, by omega, HP2, Lib.hid (below_drewN HB.out _)⟩
          case measure => simp [intOf]; omega
        all_goals
          have HE : Hid (decide (a = b) = false) := Lib.hid (by simpa using HNE.out hne)
          clear HPN HNE hne
          go_wp2_with fail
          go_quiet (fail)
          go_wp2_with fail
          go_ret
          exact ⟨by rw [HE.out]; rfl, below_drewN HB.out _⟩
      · obtain rfl : k = a.length := by omega
        have HE : Hid (decide (a = b) = true) := Lib.hid (by simpa using toks_eq HL.out HP.out)
        go_wp2_with fail
        go_ret
        exact ⟨by rw [HE.out]; rfl, HB.out⟩
  · have ql : ((a.length : Int) == (b.length : Int)) = false := by simp; omega
    have ql2 : ((a.length : Int) != (b.length : Int)) = true := by rw [bne, ql]; rfl
    have HE : Hid (decide (a = b) = false) := Lib.hid (by simpa using fun e => hl (by rw [e]))
    clear hl
    go_enter Tryd.func19, Tryd.ntmps19
    go_wp2_with fail
    go_ret
    exact ⟨by rw [HE.out]; rfl, Below.refl _ _⟩
end Go.Proofs.YteojnejomgomjaaDoor
