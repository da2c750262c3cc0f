/-
  The functions of one, looked up and called: Mon, IsMon; Unit.
-/
import Derived.Test.YtkghmcfbhojbaaaDoorProg
import Derived.Test.YtkghmcfbhojbaaaDoorReg
import Derived.WalkKit
import Derived.WalkSpells
import Derived.WalkLawsBesides
import Derived.Lib.Hide
import Derived.Lib.MinMax
import Derived.Deep.QuietTactic
import Derived.BigQuiet
import Derived.OwnWalk
import Derived.Deep.AppendLies
import Derived.KernelRfl
import Derived.Shelf.Abstract
import Derived.Test.YtkghmcfbhojbaaaDoorNumR
set_option linter.unusedSimpArgs false
set_option linter.unusedVariables false
namespace Go.Proofs.YtkghmcfbhojbaaaDoor
open Go.RowKit

set_option maxRecDepth 100000 in
set_option maxHeartbeats 4000000 in
theorem mon_not (y : Int) (a d : Addr) (w : World) :
    Calls Tryd.prog 49 #[.int .i64 y] w fun r w' => r = .returned (.tuple #[.int .i64 (monOut gNot y).1, errV a d gNot (monOut gNot y).2]) ∧ Below w.heap.size w w' := by
  have e0 : monOut gNot y = if y = 0 ∨ y = 1 then (1 - y, 0) else (0, 102) := rfl
  rw [e0]
  by_cases h0 : y = 0
  · subst h0
    go_enter Tryd.func49, Tryd.ntmps49
    go_wp2_with fail
    refine (must1 _ _ _ _ _ _ _ (by simp)).mono ?_
    rintro r w' ⟨rfl, rfl⟩
    go_wp2_with fail
    go_ret2
    exact ⟨by simp [errV], (Below.refl _ _).alloc (Nat.le_refl _) _⟩
  · by_cases h1 : y = 1
    · subst h1
      go_enter Tryd.func49, Tryd.ntmps49
      go_wp2_with fail
      refine (must1 _ _ _ _ _ _ _ (by simp)).mono ?_
      rintro r w' ⟨rfl, rfl⟩
      go_wp2_with fail
      go_ret2
      exact ⟨by simp [errV], (Below.refl _ _).alloc (Nat.le_refl _) _⟩
    · have q0 : (y == 0) = false := by simpa using h0
      have q1 : (y == 1) = false := by simpa using h1
      rw [if_neg (by simp [h0, h1])]
      clear e0 h0 h1
      go_enter Tryd.func49, Tryd.ntmps49
      go_wp2_with fail
      refine (must1 _ _ _ _ _ _ _ (by simp)).mono ?_
      rintro r w' ⟨rfl, rfl⟩
      go_wp2_with fail
      go_ret2
      exact ⟨by simp [errV, gNot], (Below.refl _ _).alloc (Nat.le_refl _) _⟩

set_option maxRecDepth 100000 in
set_option maxHeartbeats 4000000 in
theorem mon_size (y : Int) (p a d : Addr) (g : ByteArray) (w : World) (hy : fits y = true) (hg : OverAt a w) (hp : w.cell? p = some (.func (.func 45) #[] #[])) :
    Calls Tryd.prog 51 #[.int .i64 y, .pointer (some p)] w fun r w' => r = .returned (.tuple #[.int .i64 (if y < 0 then orOver (-y) else (y, 0)).1, errV a d g (if y < 0 then orOver (-y) else (y, 0)).2]) ∧ Below w.heap.size w w' := by
  have T := Lib.hid (mon_minus y a d g w hy hg)
  by_cases h : y < 0
  · rw [if_pos h]
    go_enter Tryd.func51, Tryd.ntmps51
    go_wp2_with fail
    refine T.out.mono ?_
    rintro r w' ⟨rfl, hb⟩
    go_wp2_with fail
    go_ret2
    exact ⟨rfl, hb⟩
  · rw [if_neg h]
    go_enter Tryd.func51, Tryd.ntmps51
    go_wp2_with fail
    go_ret2
    exact ⟨by simp [errV], Below.refl _ _⟩

/-- Is there a function of one? -/
def isMonG (g : ByteArray) : Prop := g = gAdd ∨ g = gTake ∨ g = gTimes ∨ g = gDiv ∨ g = gRes ∨ g = gHi ∨ g = gLo ∨ g = gNot

def DoesOne (a d : Addr) (g : ByteArray) (f : FuncId) (cap : Array Value) (w : World) : Prop :=
  ∀ y : Int, fits y = true → Calls Tryd.prog f (#[.int .i64 y] ++ cap) w fun r w' => r = .returned (.tuple #[.int .i64 (monOut g y).1, errV a d g (monOut g y).2]) ∧ Below w.heap.size w w'

theorem monOut_none {g : ByteArray} (h : ¬ isMonG g) (y : Int) : monOut g y = (0, 102) := by
  unfold isMonG at h
  simp only [not_or] at h
  unfold monOut
  simp [h]

theorem monads_has (a d : Addr) (w : World) :
    Calls Tryd.prog 22 #[] w fun r w' => r = .returned (.map (some (w.heap.size + 1))) ∧ Below w.heap.size w w' ∧ ∃ look, MapIs w' Tryd.prog 9 (w.heap.size + 1) 8 look ∧
      ∀ g, (¬ isMonG g ∧ look g = none) ∨ isMonG g ∧ ∃ f cap, look g = some (.func (.func f) #[] cap) ∧ Enters Tryd.prog f ∧ ∀ w2, Below w'.heap.size w' w2 → Laid10 a d w2 → DoesOne a d g f cap w2 := by
  refine (monads_any w).mono ?_
  rintro r w' ⟨rfl, hm, hc, hb⟩
  refine ⟨rfl, hb, _, hm, fun g => ?_⟩
  by_cases h8 : isMonG g
  · refine Or.inr ⟨h8, ?_⟩
    rcases h8 with rfl | rfl | rfl | rfl | rfl | rfl | rfl | rfl
    · exact ⟨_, #[], rfl, enters_of Tryd.func44 (by kernel_rfl) rfl, fun w2 _ _ y _ => mon_same y w2⟩
    · exact ⟨_, #[], rfl, enters_of Tryd.func45 (by kernel_rfl) rfl, fun w2 _ hL y hy => mon_minus y a d gTake w2 hy hL.over⟩
    · exact ⟨_, #[], rfl, enters_of Tryd.func46 (by kernel_rfl) rfl, fun w2 _ hL y hy => mon_sign y w2⟩
    · exact ⟨_, #[], rfl, enters_of Tryd.func48 (by kernel_rfl) rfl, fun w2 _ hL y hy => mon_over y a d gDiv w2 hy hL.over hL.divide⟩
    · exact ⟨_, #[.pointer (some ⟨w.heap.size, 0, none⟩)], rfl, enters_of Tryd.func51 (by kernel_rfl) rfl, fun w2 hb2 hL y hy => mon_size y ⟨w.heap.size, 0, none⟩ a d gRes w2 hy hL.over ((hb2.cell (cell_lt hc)).trans hc)⟩
    · exact ⟨_, #[], rfl, enters_of Tryd.func44 (by kernel_rfl) rfl, fun w2 _ _ y _ => mon_same y w2⟩
    · exact ⟨_, #[], rfl, enters_of Tryd.func44 (by kernel_rfl) rfl, fun w2 _ _ y _ => mon_same y w2⟩
    · exact ⟨_, #[], rfl, enters_of Tryd.func49 (by kernel_rfl) rfl, fun w2 _ _ y _ => mon_not y a d w2⟩
  · refine Or.inl ⟨h8, ?_⟩
    unfold isMonG at h8
    simp only [not_or] at h8
    simp [look8, h8]

set_option maxRecDepth 100000 in
set_option maxHeartbeats 4000000 in
theorem mon_any (g : ByteArray) (hg : g.size ≤ maxLen) (y : Int) (a d : Addr) (w : World) (hy : fits y = true) (h : Laid10 a d w) :
    Calls Tryd.prog 11 #[.string g, .int .i64 y] w fun r w' => r = .returned (.tuple #[.int .i64 (monOut g y).1, .int .i64 (monOut g y).2]) ∧ Below w.heap.size w w' := by
  have D := Lib.hid (monads_has a d w)
  have F := Lib.hid (fun (u : World) => h.below (w' := u))
  have hk := Tryd.underlying9
  have ht := Tryd.underlying49
  have hz : ∀ u : World, (zeroValue 47).run Tryd.prog u = .ok .nilFunc u := fun u => by kernel_rfl
  have T := Lib.hid (fun (c : Int) (u : World) (hc : Code c) (h : Laid10 a d u) => told_any a d g c u hc h)
  have C := Lib.hid (monOut_code g y)
  have N := Lib.hid (fun hn => monOut_none (g := g) hn y)
  have T2 := Lib.hid (fun (u : World) (h : Laid10 a d u) => told_domain a d g u h)
  clear h
  go_enter Tryd.func11, Tryd.ntmps11
  go_wp2_with fail
  refine D.out.mono ?_
  rintro r w1 ⟨rfl, hb, look, hm, hlook⟩
  have hl := hm.get true hk ht (hz w1) g hg
  have L1 := F.out _ hb
  rcases hlook g with ⟨hn, e⟩ | ⟨hn, f, cap, e, hE, hdo⟩
  · rw [e] at hl
    simp only [Option.getD_none, Option.isSome_none, if_true] at hl
    have eN := Lib.hid (N.out hn)
    have T3 := Lib.hid (T2.out _ L1)
    have B1 := Lib.hid hb
    clear hb hm hlook e D F T C N T2 L1
    go_wp2_with fail
    refine T3.out.mono ?_
    rintro r w2 ⟨rfl, hb2⟩
    go_wp2_with fail
    go_ret2
    rw [eN.out]
    exact ⟨rfl, B1.out.trans (hb2.mono B1.out.size)⟩
  · rw [e] at hl
    simp only [Option.getD_some, Option.isSome_some, if_true] at hl
    have B1 := Lib.hid hb
    have K := Lib.hid (hdo w1 (Below.refl _ _) L1 y hy)
    have T3 := Lib.hid (fun (u : World) (hu : Below w1.heap.size w1 u) => T.out _ u C.out (L1.below hu))
    clear hb hm hlook e D F T C N T2 L1 hdo
    go_wp2_with fail
    rw [hE]
    refine K.out.mono ?_
    rintro r w2 ⟨rfl, hb2⟩
    have T4 := Lib.hid (T3.out _ hb2)
    go_wp2_with fail
    refine T4.out.mono ?_
    rintro r w3 ⟨rfl, hb3⟩
    go_wp2_with fail
    go_ret2
    exact ⟨rfl, B1.out.trans ((hb2.trans (hb3.mono hb2.size)).mono B1.out.size)⟩

set_option maxRecDepth 100000 in
set_option maxHeartbeats 4000000 in
theorem isMon_any (g : ByteArray) (hg : g.size ≤ maxLen) (w : World) [Decidable (isMonG g)] :
    Calls Tryd.prog 18 #[.string g] w fun r w' => r = .returned (.bool (decide (isMonG g))) ∧ Below w.heap.size w w' := by
  have D := Lib.hid (monads_has ⟨0, 0, none⟩ ⟨0, 0, none⟩ w)
  have hk := Tryd.underlying9
  have ht := Tryd.underlying49
  have hz : ∀ u : World, (zeroValue 47).run Tryd.prog u = .ok .nilFunc u := fun u => by kernel_rfl
  have n1 : ∀ u : World, Sem.run Tryd.prog (binOp BinOp.neq 47 Value.nilFunc Value.nilFunc) u = .ok (.bool false) u := fun u => by kernel_rfl
  have n2 : ∀ (fn : Fn) (first captured : Array Value) (u : World), Sem.run Tryd.prog (binOp BinOp.neq 47 (Value.func fn first captured) Value.nilFunc) u = .ok (.bool true) u := fun fn first captured u => by kernel_rfl
  go_enter Tryd.func18, Tryd.ntmps18
  go_wp2_with fail
  refine D.out.mono ?_
  rintro r w1 ⟨rfl, hb, look, hm, hlook⟩
  have hl := hm.get false hk ht (hz w1) g hg
  rcases hlook g with ⟨hn, e⟩ | ⟨hn, f, cap, e, _, _⟩
  · rw [e] at hl
    simp only [Option.getD_none, Bool.false_eq_true, if_false] at hl
    have B1 := Lib.hid hb
    clear hb hm hlook e D
    go_wp2_with fail
    go_ret
    exact ⟨by simp [hn], B1.out⟩
  · rw [e] at hl
    simp only [Option.getD_some, Bool.false_eq_true, if_false] at hl
    have B1 := Lib.hid hb
    clear hb hm hlook e D
    go_wp2_with fail
    go_ret
    exact ⟨by simp [hn], B1.out⟩

/-- What 'Unit's map holds. -/
def look4 (x : ByteArray) : Option Value :=
  if x = gOr then some (.int .i64 0) else if x = gAnd then some (.int .i64 1) else if x = gTimes then some (.int .i64 1) else if x = gAdd then some (.int .i64 0) else none

set_option maxRecDepth 100000 in
set_option maxHeartbeats 4000000 in
theorem unit_any (g : ByteArray) (hg : g.size ≤ maxLen) (w : World) :
    Calls Tryd.prog 14 #[.string g] w fun r w' => r = .returned (.tuple #[.int .i64 (unitOut g).1, .bool (unitOut g).2]) ∧ Below w.heap.size w w' := by
  have hmm := @run_makeMap Tryd.prog
  have hk := Tryd.underlying9
  have ht := Tryd.underlying55
  have hz : ∀ u : World, (zeroValue 2).run Tryd.prog u = .ok (.int .i64 0) u := fun u => by kernel_rfl
  obtain ⟨w1, r1, m1, g1⟩ := (MapIs.made w Tryd.prog 9).put hk ht (by unfold maxLen; omega) gAdd (by decide) (.int .i64 0)
  obtain ⟨w2, r2, m2, g2⟩ := m1.put hk ht (by unfold maxLen; omega) gTimes (by decide) (.int .i64 1)
  obtain ⟨w3, r3, m3, g3⟩ := m2.put hk ht (by unfold maxLen; omega) gAnd (by decide) (.int .i64 1)
  obtain ⟨w4, r4, m4, g4⟩ := m3.put hk ht (by unfold maxLen; omega) gOr (by decide) (.int .i64 0)
  have hb4 : Below w.heap.size w w4 := by
    have h0 : Below w.heap.size w (w.alloc (.map #[] 0)) := (Below.refl _ _).alloc (Nat.le_refl _) _
    have st : ∀ {u v : World}, Below w.heap.size w u → u.grownBy v (some w.heap.size) → Below w.heap.size w v := fun hu hg => hu.grown hg hu.size (fun k hk => by cases hk; exact Nat.le_refl _)
    exact st (st (st (st h0 g1) g2) g3) g4
  have m4' : MapIs w4 Tryd.prog 9 w.heap.size 4 look4 := m4
  have hl := m4'.get true hk ht (hz w4) g hg
  have e1 : (look4 g).getD (.int .i64 0) = .int .i64 (unitOut g).1 := by
    unfold look4 unitOut
    by_cases a1 : g = gOr
    · subst a1; rfl
    by_cases a2 : g = gAnd
    · subst a2; rfl
    by_cases a3 : g = gTimes
    · subst a3; rfl
    by_cases a4 : g = gAdd
    · subst a4; rfl
    simp [a1, a2, a3, a4]
  have e2 : (look4 g).isSome = (unitOut g).2 := by
    unfold look4 unitOut
    by_cases a1 : g = gOr
    · subst a1; rfl
    by_cases a2 : g = gAnd
    · subst a2; rfl
    by_cases a3 : g = gTimes
    · subst a3; rfl
    by_cases a4 : g = gAdd
    · subst a4; rfl
    simp [a1, a2, a3, a4]
  rw [e1, e2] at hl
  simp only [if_true] at hl
  have B := Lib.hid hb4
  clear m1 m2 m3 m4 g1 g2 g3 g4 m4' e1 e2 hb4
  unfold gAdd at r1
  unfold gTimes at r2
  unfold gAnd at r3
  unfold gOr at r4
  generalize (unitOut g).1 = n at *
  generalize (unitOut g).2 = ok at *
  go_enter Tryd.func14, Tryd.ntmps14
  go_wp2_with fail
  go_ret2
  exact ⟨rfl, B.out⟩
end Go.Proofs.YtkghmcfbhojbaaaDoor
