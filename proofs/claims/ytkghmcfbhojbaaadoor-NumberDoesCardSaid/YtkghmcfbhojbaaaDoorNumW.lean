/-
  The document's answers of layer 10: which glyphs, what changes nothing, comparing.
-/
import Derived.Test.YtkghmcfbhojbaaaDoorProg
import Derived.Test.YtkghmcfbhojbaaaDoorReg
import Derived.WalkKit
import Derived.WalkSpells
import Derived.WalkLawsBesides
import Derived.Lib.Hide
import Derived.Lib.MinMax
import Derived.Deep.QuietTactic
import Derived.BigQuiet
import Derived.OwnWalk
import Derived.Deep.AppendLies
import Derived.KernelRfl
import Derived.Test.YtkghmcfbhojbaaaDoorNumV
set_option linter.unusedSimpArgs false
set_option linter.unusedVariables false
namespace Go.Proofs.YtkghmcfbhojbaaaDoor
open Go.RowKit

/-- A truth value is told: that of p. -/
def TellsBool (r : Ending) (p : Prop) : Prop := ∃ o : Bool, r = .returned (.bool o) ∧ (o = true ↔ p)

set_option maxRecDepth 100000 in
set_option maxHeartbeats 4000000 in
theorem rin_any (g : ByteArray) (l : List ByteArray) (b c : Nat) (w : World) (hl : l.length ≤ 1000) (hh : ∀ (k : Nat) (x : ByteArray), l[k]? = some x → w.cell? ⟨b, k, none⟩ = some (.string x)) :
    Calls Tryd.prog 30 #[.slice (some ⟨b, 0, none⟩) l.length c, .string g] w fun r w' => TellsBool r (g ∈ l) ∧ w' = w := by
  go_enter Tryd.func30, Tryd.ntmps30
  go_wp2
  go_loop [5] (fun i => ∃ k : Nat, k ≤ l.length ∧ i = .int .i64 k ∧ g ∉ l.take k) (fun i => l.length - (intOf i).toNat)
  case atStart => exact ⟨0, by omega, rfl, by simp⟩
  case round =>
    obtain ⟨k, hk, rfl, hr⟩ := hrel
    by_cases hlt : k < l.length
    · have hc := hh k l[k] (List.getElem?_eq_getElem hlt)
      have Hm : Hid (l[k] ∈ l) := Lib.hid (List.getElem_mem hlt)
      have Hr := Lib.hid hr
      have Hn := Lib.hid (show l[k] ≠ g → g ∉ l.take (k + 1) from fun h => by rw [List.take_succ_eq_append_getElem hlt, List.mem_append]; simp only [List.mem_singleton]; rintro (h1 | h1); exact hr h1; exact h h1.symm)
      clear hr hh
      generalize l[k] = x at *
      by_cases he : x = g
      · have hq := bytes_beq_yes he
        have Hy : Hid (g ∈ l) := Lib.hid (he ▸ Hm.out)
        clear he
        go_wp2
        go_ret
        exact ⟨⟨true, rfl, by simp [Hy.out]⟩, rfl⟩
      · have hq := bytes_beq_no he
        have Hz := Lib.hid (Hn.out he)
        clear he
        go_wp2
        go_round
        case rel => exact ⟨k + 1, by omega, by go_num, Hz.out⟩
        case measure => simp [intOf]; omega
    · obtain rfl : k = l.length := by omega
      rw [List.take_length] at hr
      have Hr := Lib.hid hr
      clear hr hh
      go_wp2
      go_ret
      exact ⟨⟨false, rfl, by simp [Hr.out]⟩, rfl⟩

theorem mem_dyGlyphs {g : ByteArray} : g ∈ dyGlyphs ↔ isDyG g := by
  simp only [dyGlyphs, isDyG, isCmp, isLog, List.mem_cons, List.not_mem_nil, or_false]
  constructor
  · rintro (h | h | h | h | h | h | h | h | h | h | h | h | h | h | h) <;> simp [h]
  · rintro (h | h | h | h | h | h | h | (h | h | h | h | h | h) | (h | h)) <;> simp [h]
theorem mem_monGlyphs {g : ByteArray} : g ∈ monGlyphs ↔ isMonG g := by
  simp only [monGlyphs, isMonG, List.mem_cons, List.not_mem_nil, or_false]
  constructor
  · rintro (h | h | h | h | h | h | h | h) <;> simp [h]
  · rintro (h | h | h | h | h | h | h | h) <;> simp [h]

theorem strs_at (l : List ByteArray) (t : TypeId) (w : World) (k : Nat) (x : ByteArray) (h : l[k]? = some x) : (w.alloc (.cells (l.map Value.string).toArray t)).cell? ⟨w.heap.size, k, none⟩ = some (.string x) := by
  rw [World.cell?_alloc_at _ _ _ _ rfl]
  simp [h]

set_option maxRecDepth 100000 in
set_option maxHeartbeats 4000000 in
theorem rIsDy_any (g : ByteArray) (w : World) :
    Calls Tryd.prog 17 #[.string g] w fun r w' => TellsBool r (isDyG g) ∧ Below w.heap.size w w' := by
  have R := Lib.hid (fun (c : Nat) => rin_any g dyGlyphs w.heap.size c (w.alloc (.cells (dyGlyphs.map Value.string).toArray 9)) (by decide) (strs_at dyGlyphs 9 w))
  go_enter Tryd.func17, Tryd.ntmps17
  go_wp2_with fail
  refine (R.out _).mono ?_
  rintro r w' ⟨⟨o, rfl, ho⟩, rfl⟩
  go_wp2_with fail
  go_ret
  exact ⟨⟨o, rfl, ho.trans mem_dyGlyphs⟩, (Below.refl _ _).alloc (Nat.le_refl _) _⟩

set_option maxRecDepth 100000 in
set_option maxHeartbeats 4000000 in
theorem rIsMon_any (g : ByteArray) (w : World) :
    Calls Tryd.prog 19 #[.string g] w fun r w' => TellsBool r (isMonG g) ∧ Below w.heap.size w w' := by
  have R := Lib.hid (fun (c : Nat) => rin_any g monGlyphs w.heap.size c (w.alloc (.cells (monGlyphs.map Value.string).toArray 9)) (by decide) (strs_at monGlyphs 9 w))
  go_enter Tryd.func19, Tryd.ntmps19
  go_wp2_with fail
  refine (R.out _).mono ?_
  rintro r w' ⟨⟨o, rfl, ho⟩, rfl⟩
  go_wp2_with fail
  go_ret
  exact ⟨⟨o, rfl, ho.trans mem_monGlyphs⟩, (Below.refl _ _).alloc (Nat.le_refl _) _⟩

set_option maxRecDepth 100000 in
set_option maxHeartbeats 4000000 in
theorem rUnit_any (g : ByteArray) (w : World) :
    Calls Tryd.prog 15 #[.string g] w fun r w' => r = .returned (.tuple #[.int .i64 (unitOut g).1, .bool (unitOut g).2]) ∧ w' = w := by
  by_cases h1 : g = gTimes
  · subst h1
    show Calls Tryd.prog _ #[.string ⟨#[195, 151]⟩] w _
    go_enter Tryd.func15, Tryd.ntmps15
    go_wp2_with fail
    go_ret2
    exact ⟨rfl, rfl⟩
  by_cases h2 : g = gAnd
  · subst h2
    show Calls Tryd.prog _ #[.string ⟨#[226, 136, 167]⟩] w _
    go_enter Tryd.func15, Tryd.ntmps15
    go_wp2_with fail
    go_ret2
    exact ⟨rfl, rfl⟩
  by_cases h3 : g = gAdd
  · subst h3
    show Calls Tryd.prog _ #[.string ⟨#[43]⟩] w _
    go_enter Tryd.func15, Tryd.ntmps15
    go_wp2_with fail
    go_ret2
    exact ⟨rfl, rfl⟩
  by_cases h4 : g = gOr
  · subst h4
    show Calls Tryd.prog _ #[.string ⟨#[226, 136, 168]⟩] w _
    go_enter Tryd.func15, Tryd.ntmps15
    go_wp2_with fail
    go_ret2
    exact ⟨rfl, rfl⟩
  have e : unitOut g = (0, false) := by simp [unitOut, h1, h2, h3, h4]
  rw [e]
  unfold gTimes at h1
  unfold gAnd at h2
  unfold gAdd at h3
  unfold gOr at h4
  have t1 : (⟨#[195, 151]⟩ : ByteArray).toList = [195, 151] := by decide +kernel
  have q1 : (g.toList == [195, 151]) = false := by rw [← t1]; exact bytes_beq_no h1
  have t2 : (⟨#[226, 136, 167]⟩ : ByteArray).toList = [226, 136, 167] := by decide +kernel
  have q2 : (g.toList == [226, 136, 167]) = false := by rw [← t2]; exact bytes_beq_no h2
  have t3 : (⟨#[43]⟩ : ByteArray).toList = [43] := by decide +kernel
  have q3 : (g.toList == [43]) = false := by rw [← t3]; exact bytes_beq_no h3
  have t4 : (⟨#[226, 136, 168]⟩ : ByteArray).toList = [226, 136, 168] := by decide +kernel
  have q4 : (g.toList == [226, 136, 168]) = false := by rw [← t4]; exact bytes_beq_no h4
  clear h1 h2 h3 h4 e t1 t2 t3 t4
  go_enter Tryd.func15, Tryd.ntmps15
  go_wp2_with fail
  go_ret2
  exact ⟨rfl, rfl⟩

set_option maxRecDepth 100000 in
set_option maxHeartbeats 4000000 in
theorem rcompare_any (g : ByteArray) (hg : isCmp g) (x y : Int) (w : World) :
    Calls Tryd.prog 28 #[.string g, .int .i64 x, .int .i64 y] w fun r w' => r = .returned (.int .i64 (cmpOut g x y)) ∧ w' = w := by
  obtain ⟨o1, p1⟩ : ∃ o, decide (x < y) = o := ⟨_, rfl⟩
  rcases hg with rfl | rfl | rfl | rfl | rfl | rfl
  · show Calls Tryd.prog _ #[.string ⟨#[61]⟩, .int .i64 x, .int .i64 y] w _
    have e : cmpOut gEq x y = bit (decide (x = y)) := rfl
    rw [e]
    clear e p1
    rcases Int.lt_trichotomy x y with h | h | h
    · have q : (x == y) = false := by simp; omega
      have q1 : decide (x < y) = true := by simpa using h
      have q2 : decide (y < x) = false := by simp; omega
      have q3 : decide (x ≤ y) = true := by simp; omega
      have q4 : decide (y ≤ x) = false := by simp; omega
      go_enter Tryd.func28, Tryd.ntmps28
      go_wp2_with (go_at_call 29; refine (rbit_any _ _).mono ?_; rintro r w' ⟨rfl, rfl⟩)
      go_ret
      exact ⟨by first | rfl | (simp [bit, q, q1, q2, q3, q4]; done) | (simp [bit]; omega), rfl⟩
    · subst h
      go_enter Tryd.func28, Tryd.ntmps28
      go_wp2_with (go_at_call 29; refine (rbit_any _ _).mono ?_; rintro r w' ⟨rfl, rfl⟩)
      go_ret
      exact ⟨by first | rfl | (simp [bit]; done) | (simp [bit]; omega), rfl⟩
    · have q : (x == y) = false := by simp; omega
      have q1 : decide (x < y) = false := by simp; omega
      have q2 : decide (y < x) = true := by simpa using h
      have q3 : decide (x ≤ y) = false := by simp; omega
      have q4 : decide (y ≤ x) = true := by simp; omega
      go_enter Tryd.func28, Tryd.ntmps28
      go_wp2_with (go_at_call 29; refine (rbit_any _ _).mono ?_; rintro r w' ⟨rfl, rfl⟩)
      go_ret
      exact ⟨by first | rfl | (simp [bit, q, q1, q2, q3, q4]; done) | (simp [bit]; omega), rfl⟩
  · show Calls Tryd.prog _ #[.string ⟨#[226, 137, 160]⟩, .int .i64 x, .int .i64 y] w _
    have e : cmpOut gNe x y = bit (decide (x ≠ y)) := rfl
    rw [e]
    clear e p1
    rcases Int.lt_trichotomy x y with h | h | h
    · have q : (x == y) = false := by simp; omega
      have q1 : decide (x < y) = true := by simpa using h
      have q2 : decide (y < x) = false := by simp; omega
      have q3 : decide (x ≤ y) = true := by simp; omega
      have q4 : decide (y ≤ x) = false := by simp; omega
      go_enter Tryd.func28, Tryd.ntmps28
      go_wp2_with (go_at_call 29; refine (rbit_any _ _).mono ?_; rintro r w' ⟨rfl, rfl⟩)
      go_ret
      exact ⟨by first | rfl | (simp [bit, q, q1, q2, q3, q4]; done) | (simp [bit]; omega), rfl⟩
    · subst h
      go_enter Tryd.func28, Tryd.ntmps28
      go_wp2_with (go_at_call 29; refine (rbit_any _ _).mono ?_; rintro r w' ⟨rfl, rfl⟩)
      go_ret
      exact ⟨by first | rfl | (simp [bit]; done) | (simp [bit]; omega), rfl⟩
    · have q : (x == y) = false := by simp; omega
      have q1 : decide (x < y) = false := by simp; omega
      have q2 : decide (y < x) = true := by simpa using h
      have q3 : decide (x ≤ y) = false := by simp; omega
      have q4 : decide (y ≤ x) = true := by simp; omega
      go_enter Tryd.func28, Tryd.ntmps28
      go_wp2_with (go_at_call 29; refine (rbit_any _ _).mono ?_; rintro r w' ⟨rfl, rfl⟩)
      go_ret
      exact ⟨by first | rfl | (simp [bit, q, q1, q2, q3, q4]; done) | (simp [bit]; omega), rfl⟩
  · show Calls Tryd.prog _ #[.string ⟨#[60]⟩, .int .i64 x, .int .i64 y] w _
    have e : cmpOut gLt x y = bit (decide (x < y)) := rfl
    rw [e]
    clear e p1
    rcases Int.lt_trichotomy x y with h | h | h
    · have q : (x == y) = false := by simp; omega
      have q1 : decide (x < y) = true := by simpa using h
      have q2 : decide (y < x) = false := by simp; omega
      have q3 : decide (x ≤ y) = true := by simp; omega
      have q4 : decide (y ≤ x) = false := by simp; omega
      go_enter Tryd.func28, Tryd.ntmps28
      go_wp2_with (go_at_call 29; refine (rbit_any _ _).mono ?_; rintro r w' ⟨rfl, rfl⟩)
      go_ret
      exact ⟨by first | rfl | (simp [bit, q, q1, q2, q3, q4]; done) | (simp [bit]; omega), rfl⟩
    · subst h
      go_enter Tryd.func28, Tryd.ntmps28
      go_wp2_with (go_at_call 29; refine (rbit_any _ _).mono ?_; rintro r w' ⟨rfl, rfl⟩)
      go_ret
      exact ⟨by first | rfl | (simp [bit]; done) | (simp [bit]; omega), rfl⟩
    · have q : (x == y) = false := by simp; omega
      have q1 : decide (x < y) = false := by simp; omega
      have q2 : decide (y < x) = true := by simpa using h
      have q3 : decide (x ≤ y) = false := by simp; omega
      have q4 : decide (y ≤ x) = true := by simp; omega
      go_enter Tryd.func28, Tryd.ntmps28
      go_wp2_with (go_at_call 29; refine (rbit_any _ _).mono ?_; rintro r w' ⟨rfl, rfl⟩)
      go_ret
      exact ⟨by first | rfl | (simp [bit, q, q1, q2, q3, q4]; done) | (simp [bit]; omega), rfl⟩
  · show Calls Tryd.prog _ #[.string ⟨#[62]⟩, .int .i64 x, .int .i64 y] w _
    have e : cmpOut gGt x y = bit (decide (y < x)) := rfl
    rw [e]
    clear e p1
    rcases Int.lt_trichotomy x y with h | h | h
    · have q : (x == y) = false := by simp; omega
      have q1 : decide (x < y) = true := by simpa using h
      have q2 : decide (y < x) = false := by simp; omega
      have q3 : decide (x ≤ y) = true := by simp; omega
      have q4 : decide (y ≤ x) = false := by simp; omega
      go_enter Tryd.func28, Tryd.ntmps28
      go_wp2_with (go_at_call 29; refine (rbit_any _ _).mono ?_; rintro r w' ⟨rfl, rfl⟩)
      go_ret
      exact ⟨by first | rfl | (simp [bit, q, q1, q2, q3, q4]; done) | (simp [bit]; omega), rfl⟩
    · subst h
      go_enter Tryd.func28, Tryd.ntmps28
      go_wp2_with (go_at_call 29; refine (rbit_any _ _).mono ?_; rintro r w' ⟨rfl, rfl⟩)
      go_ret
      exact ⟨by first | rfl | (simp [bit]; done) | (simp [bit]; omega), rfl⟩
    · have q : (x == y) = false := by simp; omega
      have q1 : decide (x < y) = false := by simp; omega
      have q2 : decide (y < x) = true := by simpa using h
      have q3 : decide (x ≤ y) = false := by simp; omega
      have q4 : decide (y ≤ x) = true := by simp; omega
      go_enter Tryd.func28, Tryd.ntmps28
      go_wp2_with (go_at_call 29; refine (rbit_any _ _).mono ?_; rintro r w' ⟨rfl, rfl⟩)
      go_ret
      exact ⟨by first | rfl | (simp [bit, q, q1, q2, q3, q4]; done) | (simp [bit]; omega), rfl⟩
  · show Calls Tryd.prog _ #[.string ⟨#[226, 137, 164]⟩, .int .i64 x, .int .i64 y] w _
    have e : cmpOut gLe x y = bit (decide (x ≤ y)) := rfl
    rw [e]
    clear e p1
    rcases Int.lt_trichotomy x y with h | h | h
    · have q : (x == y) = false := by simp; omega
      have q1 : decide (x < y) = true := by simpa using h
      have q2 : decide (y < x) = false := by simp; omega
      have q3 : decide (x ≤ y) = true := by simp; omega
      have q4 : decide (y ≤ x) = false := by simp; omega
      go_enter Tryd.func28, Tryd.ntmps28
      go_wp2_with (go_at_call 29; refine (rbit_any _ _).mono ?_; rintro r w' ⟨rfl, rfl⟩)
      go_ret
      exact ⟨by first | rfl | (simp [bit, q, q1, q2, q3, q4]; done) | (simp [bit]; omega), rfl⟩
    · subst h
      go_enter Tryd.func28, Tryd.ntmps28
      go_wp2_with (go_at_call 29; refine (rbit_any _ _).mono ?_; rintro r w' ⟨rfl, rfl⟩)
      go_ret
      exact ⟨by first | rfl | (simp [bit]; done) | (simp [bit]; omega), rfl⟩
    · have q : (x == y) = false := by simp; omega
      have q1 : decide (x < y) = false := by simp; omega
      have q2 : decide (y < x) = true := by simpa using h
      have q3 : decide (x ≤ y) = false := by simp; omega
      have q4 : decide (y ≤ x) = true := by simp; omega
      go_enter Tryd.func28, Tryd.ntmps28
      go_wp2_with (go_at_call 29; refine (rbit_any _ _).mono ?_; rintro r w' ⟨rfl, rfl⟩)
      go_ret
      exact ⟨by first | rfl | (simp [bit, q, q1, q2, q3, q4]; done) | (simp [bit]; omega), rfl⟩
  · show Calls Tryd.prog _ #[.string ⟨#[226, 137, 165]⟩, .int .i64 x, .int .i64 y] w _
    have e : cmpOut gGe x y = bit (decide (y ≤ x)) := rfl
    rw [e]
    clear e p1
    rcases Int.lt_trichotomy x y with h | h | h
    · have q : (x == y) = false := by simp; omega
      have q1 : decide (x < y) = true := by simpa using h
      have q2 : decide (y < x) = false := by simp; omega
      have q3 : decide (x ≤ y) = true := by simp; omega
      have q4 : decide (y ≤ x) = false := by simp; omega
      go_enter Tryd.func28, Tryd.ntmps28
      go_wp2_with (go_at_call 29; refine (rbit_any _ _).mono ?_; rintro r w' ⟨rfl, rfl⟩)
      go_ret
      exact ⟨by first | rfl | (simp [bit, q, q1, q2, q3, q4]; done) | (simp [bit]; omega), rfl⟩
    · subst h
      go_enter Tryd.func28, Tryd.ntmps28
      go_wp2_with (go_at_call 29; refine (rbit_any _ _).mono ?_; rintro r w' ⟨rfl, rfl⟩)
      go_ret
      exact ⟨by first | rfl | (simp [bit]; done) | (simp [bit]; omega), rfl⟩
    · have q : (x == y) = false := by simp; omega
      have q1 : decide (x < y) = false := by simp; omega
      have q2 : decide (y < x) = true := by simpa using h
      have q3 : decide (x ≤ y) = false := by simp; omega
      have q4 : decide (y ≤ x) = true := by simp; omega
      go_enter Tryd.func28, Tryd.ntmps28
      go_wp2_with (go_at_call 29; refine (rbit_any _ _).mono ?_; rintro r w' ⟨rfl, rfl⟩)
      go_ret
      exact ⟨by first | rfl | (simp [bit, q, q1, q2, q3, q4]; done) | (simp [bit]; omega), rfl⟩
end Go.Proofs.YtkghmcfbhojbaaaDoor
