/-
  XNdC, turned: what this seat needs of it.
-/
import Derived.Test.YtebejlnegalokaaGreatDoorProg
import Derived.Test.YtebejlnegalokaaGreatDoorReg
import Derived.WalkKit
import Derived.WalkSpells
import Derived.WalkLawsBesides
import Derived.Lib.Hide
import Derived.Lib.MinMax
import Derived.Deep.QuietTactic
import Derived.BigQuiet
import Derived.OwnWalk
import Derived.Deep.AppendLies
import Derived.KernelRfl
import Derived.WalkKit
import Derived.Test.YtebejlnegalokaaGreatDoorBytes
import Derived.Laws.OwnMore
import Derived.Test.YtebejlnegalokaaGreatDoorMapI
import Derived.Deep.RegionWith
import Derived.Deep.CutBlock
import Derived.Test.YtebejlnegalokaaGreatDoorPaLay
import Derived.Test.YtebejlnegalokaaGreatDoorNzM1
import Derived.Deep.OwnRows
set_option linter.unusedSimpArgs false
set_option linter.unusedVariables false
namespace Go.Proofs.YtebejlnegalokaaGreatDoor.Nz
open Go.RowKit
set_option maxRecDepth 100000 in
set_option maxHeartbeats 8000000 in
theorem refForm_any (x : Nd) (B : Option Addr) (c : Nat) (w : World) (hl : x.kids.length ≤ 1000000) :
    Calls Tryz.prog 49 #[x.value B c] w fun e w' => e = .returned (.bool (formOk x)) ∧ Below w.heap.size w w' := by
  unfold Nd.value
  have hb : Below w.heap.size w (w.alloc (.cells #[.int .i64 x.kind, .string x.text, .slice B x.kids.length c] 49)) := (Below.refl _ _).alloc (Nat.le_refl _) _
  have HF : Hid (formOk x = match formAt x.kind with
    | none => false
    | some (a, b, h) => decide (a ≤ x.kids.length) && decide (x.kids.length ≤ b) && (decide (0 < x.text.size) == h)) := Lib.hid rfl
  generalize formOk x = FO at *
  generalize x.kind = K at *
  generalize x.kids.length = n at *
  generalize x.text = T at *
  by_cases hk1 : K = 1
  · subst hk1
    have HO : Hid (FO = (decide (0 ≤ n) && decide (n ≤ 0) && (decide (0 < T.size) == true))) := Lib.hid HF.out
    clear HF
    by_cases hn : n = 0
    · subst hn
      by_cases h3 : 0 < T.size
      · have q := empty_not h3
        have D3 : Hid (decide (0 < T.size) = true) := Lib.hid (decide_eq_true h3)
        clear h3
        go_enter Tryz.func49, Tryz.ntmps49
        go_wp2_with fail
        go_ret
        exact ⟨by rw [HO.out, D3.out]; rfl, hb⟩
      · have q := empty_is (show T.size = 0 by omega)
        have D3 : Hid (decide (0 < T.size) = false) := Lib.hid (decide_eq_false h3)
        clear h3
        go_enter Tryz.func49, Tryz.ntmps49
        go_wp2_with fail
        go_ret
        exact ⟨by rw [HO.out, D3.out]; rfl, hb⟩
    · have hq : ((n : Int) == 0) = false := by simp; omega
      have D3 : Hid ((decide (0 ≤ n) && decide (n ≤ 0)) = false) := Lib.hid (by simp; omega)
      clear hn
      go_enter Tryz.func49, Tryz.ntmps49
      go_wp2_with fail
      go_ret
      exact ⟨by rw [HO.out, D3.out]; rfl, hb⟩
  by_cases hk2 : K = 2
  · subst hk2
    have HO : Hid (FO = (decide (0 ≤ n) && decide (n ≤ 0) && (decide (0 < T.size) == true))) := Lib.hid HF.out
    clear HF
    by_cases hn : n = 0
    · subst hn
      by_cases h3 : 0 < T.size
      · have q := empty_not h3
        have D3 : Hid (decide (0 < T.size) = true) := Lib.hid (decide_eq_true h3)
        clear h3
        go_enter Tryz.func49, Tryz.ntmps49
        go_wp2_with fail
        go_ret
        exact ⟨by rw [HO.out, D3.out]; rfl, hb⟩
      · have q := empty_is (show T.size = 0 by omega)
        have D3 : Hid (decide (0 < T.size) = false) := Lib.hid (decide_eq_false h3)
        clear h3
        go_enter Tryz.func49, Tryz.ntmps49
        go_wp2_with fail
        go_ret
        exact ⟨by rw [HO.out, D3.out]; rfl, hb⟩
    · have hq : ((n : Int) == 0) = false := by simp; omega
      have D3 : Hid ((decide (0 ≤ n) && decide (n ≤ 0)) = false) := Lib.hid (by simp; omega)
      clear hn
      go_enter Tryz.func49, Tryz.ntmps49
      go_wp2_with fail
      go_ret
      exact ⟨by rw [HO.out, D3.out]; rfl, hb⟩
  by_cases hk3 : K = 3
  · subst hk3
    have HO : Hid (FO = (decide (0 ≤ n) && decide (n ≤ 0) && (decide (0 < T.size) == true))) := Lib.hid HF.out
    clear HF
    by_cases hn : n = 0
    · subst hn
      by_cases h3 : 0 < T.size
      · have q := empty_not h3
        have D3 : Hid (decide (0 < T.size) = true) := Lib.hid (decide_eq_true h3)
        clear h3
        go_enter Tryz.func49, Tryz.ntmps49
        go_wp2_with fail
        go_ret
        exact ⟨by rw [HO.out, D3.out]; rfl, hb⟩
      · have q := empty_is (show T.size = 0 by omega)
        have D3 : Hid (decide (0 < T.size) = false) := Lib.hid (decide_eq_false h3)
        clear h3
        go_enter Tryz.func49, Tryz.ntmps49
        go_wp2_with fail
        go_ret
        exact ⟨by rw [HO.out, D3.out]; rfl, hb⟩
    · have hq : ((n : Int) == 0) = false := by simp; omega
      have D3 : Hid ((decide (0 ≤ n) && decide (n ≤ 0)) = false) := Lib.hid (by simp; omega)
      clear hn
      go_enter Tryz.func49, Tryz.ntmps49
      go_wp2_with fail
      go_ret
      exact ⟨by rw [HO.out, D3.out]; rfl, hb⟩
  by_cases hk4 : K = 4
  · subst hk4
    have HO : Hid (FO = (decide (0 ≤ n) && decide (n ≤ 0) && (decide (0 < T.size) == true))) := Lib.hid HF.out
    clear HF
    by_cases hn : n = 0
    · subst hn
      by_cases h3 : 0 < T.size
      · have q := empty_not h3
        have D3 : Hid (decide (0 < T.size) = true) := Lib.hid (decide_eq_true h3)
        clear h3
        go_enter Tryz.func49, Tryz.ntmps49
        go_wp2_with fail
        go_ret
        exact ⟨by rw [HO.out, D3.out]; rfl, hb⟩
      · have q := empty_is (show T.size = 0 by omega)
        have D3 : Hid (decide (0 < T.size) = false) := Lib.hid (decide_eq_false h3)
        clear h3
        go_enter Tryz.func49, Tryz.ntmps49
        go_wp2_with fail
        go_ret
        exact ⟨by rw [HO.out, D3.out]; rfl, hb⟩
    · have hq : ((n : Int) == 0) = false := by simp; omega
      have D3 : Hid ((decide (0 ≤ n) && decide (n ≤ 0)) = false) := Lib.hid (by simp; omega)
      clear hn
      go_enter Tryz.func49, Tryz.ntmps49
      go_wp2_with fail
      go_ret
      exact ⟨by rw [HO.out, D3.out]; rfl, hb⟩
  by_cases hk9 : K = 9
  · subst hk9
    have HO : Hid (FO = (decide (0 ≤ n) && decide (n ≤ 0) && (decide (0 < T.size) == true))) := Lib.hid HF.out
    clear HF
    by_cases hn : n = 0
    · subst hn
      by_cases h3 : 0 < T.size
      · have q := empty_not h3
        have D3 : Hid (decide (0 < T.size) = true) := Lib.hid (decide_eq_true h3)
        clear h3
        go_enter Tryz.func49, Tryz.ntmps49
        go_wp2_with fail
        go_ret
        exact ⟨by rw [HO.out, D3.out]; rfl, hb⟩
      · have q := empty_is (show T.size = 0 by omega)
        have D3 : Hid (decide (0 < T.size) = false) := Lib.hid (decide_eq_false h3)
        clear h3
        go_enter Tryz.func49, Tryz.ntmps49
        go_wp2_with fail
        go_ret
        exact ⟨by rw [HO.out, D3.out]; rfl, hb⟩
    · have hq : ((n : Int) == 0) = false := by simp; omega
      have D3 : Hid ((decide (0 ≤ n) && decide (n ≤ 0)) = false) := Lib.hid (by simp; omega)
      clear hn
      go_enter Tryz.func49, Tryz.ntmps49
      go_wp2_with fail
      go_ret
      exact ⟨by rw [HO.out, D3.out]; rfl, hb⟩
  by_cases hk14 : K = 14
  · subst hk14
    have HO : Hid (FO = (decide (0 ≤ n) && decide (n ≤ 0) && (decide (0 < T.size) == true))) := Lib.hid HF.out
    clear HF
    by_cases hn : n = 0
    · subst hn
      by_cases h3 : 0 < T.size
      · have q := empty_not h3
        have D3 : Hid (decide (0 < T.size) = true) := Lib.hid (decide_eq_true h3)
        clear h3
        go_enter Tryz.func49, Tryz.ntmps49
        go_wp2_with fail
        go_ret
        exact ⟨by rw [HO.out, D3.out]; rfl, hb⟩
      · have q := empty_is (show T.size = 0 by omega)
        have D3 : Hid (decide (0 < T.size) = false) := Lib.hid (decide_eq_false h3)
        clear h3
        go_enter Tryz.func49, Tryz.ntmps49
        go_wp2_with fail
        go_ret
        exact ⟨by rw [HO.out, D3.out]; rfl, hb⟩
    · have hq : ((n : Int) == 0) = false := by simp; omega
      have D3 : Hid ((decide (0 ≤ n) && decide (n ≤ 0)) = false) := Lib.hid (by simp; omega)
      clear hn
      go_enter Tryz.func49, Tryz.ntmps49
      go_wp2_with fail
      go_ret
      exact ⟨by rw [HO.out, D3.out]; rfl, hb⟩
  by_cases hk13 : K = 13
  · subst hk13
    have HO : Hid (FO = (decide (0 ≤ n) && decide (n ≤ 0) && (decide (0 < T.size) == true))) := Lib.hid HF.out
    clear HF
    by_cases hn : n = 0
    · subst hn
      by_cases h3 : 0 < T.size
      · have q := empty_not h3
        have D3 : Hid (decide (0 < T.size) = true) := Lib.hid (decide_eq_true h3)
        clear h3
        go_enter Tryz.func49, Tryz.ntmps49
        go_wp2_with fail
        go_ret
        exact ⟨by rw [HO.out, D3.out]; rfl, hb⟩
      · have q := empty_is (show T.size = 0 by omega)
        have D3 : Hid (decide (0 < T.size) = false) := Lib.hid (decide_eq_false h3)
        clear h3
        go_enter Tryz.func49, Tryz.ntmps49
        go_wp2_with fail
        go_ret
        exact ⟨by rw [HO.out, D3.out]; rfl, hb⟩
    · have hq : ((n : Int) == 0) = false := by simp; omega
      have D3 : Hid ((decide (0 ≤ n) && decide (n ≤ 0)) = false) := Lib.hid (by simp; omega)
      clear hn
      go_enter Tryz.func49, Tryz.ntmps49
      go_wp2_with fail
      go_ret
      exact ⟨by rw [HO.out, D3.out]; rfl, hb⟩
  by_cases hk5 : K = 5
  · subst hk5
    have HO : Hid (FO = (decide (1 ≤ n) && decide (n ≤ 1) && (decide (0 < T.size) == false))) := Lib.hid HF.out
    clear HF
    by_cases hn : n = 1
    · subst hn
      by_cases h3 : 0 < T.size
      · have q := empty_not h3
        have D3 : Hid (decide (0 < T.size) = true) := Lib.hid (decide_eq_true h3)
        clear h3
        go_enter Tryz.func49, Tryz.ntmps49
        go_wp2_with fail
        go_ret
        exact ⟨by rw [HO.out, D3.out]; rfl, hb⟩
      · have q := empty_is (show T.size = 0 by omega)
        have D3 : Hid (decide (0 < T.size) = false) := Lib.hid (decide_eq_false h3)
        clear h3
        go_enter Tryz.func49, Tryz.ntmps49
        go_wp2_with fail
        go_ret
        exact ⟨by rw [HO.out, D3.out]; rfl, hb⟩
    · have hq : ((n : Int) == 1) = false := by simp; omega
      have D3 : Hid ((decide (1 ≤ n) && decide (n ≤ 1)) = false) := Lib.hid (by simp; omega)
      clear hn
      go_enter Tryz.func49, Tryz.ntmps49
      go_wp2_with fail
      go_ret
      exact ⟨by rw [HO.out, D3.out]; rfl, hb⟩
  by_cases hk8 : K = 8
  · subst hk8
    have HO : Hid (FO = (decide (1 ≤ n) && decide (n ≤ 1) && (decide (0 < T.size) == true))) := Lib.hid HF.out
    clear HF
    by_cases hn : n = 1
    · subst hn
      by_cases h3 : 0 < T.size
      · have q := empty_not h3
        have D3 : Hid (decide (0 < T.size) = true) := Lib.hid (decide_eq_true h3)
        clear h3
        go_enter Tryz.func49, Tryz.ntmps49
        go_wp2_with fail
        go_ret
        exact ⟨by rw [HO.out, D3.out]; rfl, hb⟩
      · have q := empty_is (show T.size = 0 by omega)
        have D3 : Hid (decide (0 < T.size) = false) := Lib.hid (decide_eq_false h3)
        clear h3
        go_enter Tryz.func49, Tryz.ntmps49
        go_wp2_with fail
        go_ret
        exact ⟨by rw [HO.out, D3.out]; rfl, hb⟩
    · have hq : ((n : Int) == 1) = false := by simp; omega
      have D3 : Hid ((decide (1 ≤ n) && decide (n ≤ 1)) = false) := Lib.hid (by simp; omega)
      clear hn
      go_enter Tryz.func49, Tryz.ntmps49
      go_wp2_with fail
      go_ret
      exact ⟨by rw [HO.out, D3.out]; rfl, hb⟩
  by_cases hk10 : K = 10
  · subst hk10
    have HO : Hid (FO = (decide (1 ≤ n) && decide (n ≤ 1) && (decide (0 < T.size) == true))) := Lib.hid HF.out
    clear HF
    by_cases hn : n = 1
    · subst hn
      by_cases h3 : 0 < T.size
      · have q := empty_not h3
        have D3 : Hid (decide (0 < T.size) = true) := Lib.hid (decide_eq_true h3)
        clear h3
        go_enter Tryz.func49, Tryz.ntmps49
        go_wp2_with fail
        go_ret
        exact ⟨by rw [HO.out, D3.out]; rfl, hb⟩
      · have q := empty_is (show T.size = 0 by omega)
        have D3 : Hid (decide (0 < T.size) = false) := Lib.hid (decide_eq_false h3)
        clear h3
        go_enter Tryz.func49, Tryz.ntmps49
        go_wp2_with fail
        go_ret
        exact ⟨by rw [HO.out, D3.out]; rfl, hb⟩
    · have hq : ((n : Int) == 1) = false := by simp; omega
      have D3 : Hid ((decide (1 ≤ n) && decide (n ≤ 1)) = false) := Lib.hid (by simp; omega)
      clear hn
      go_enter Tryz.func49, Tryz.ntmps49
      go_wp2_with fail
      go_ret
      exact ⟨by rw [HO.out, D3.out]; rfl, hb⟩
  by_cases hk6 : K = 6
  · subst hk6
    have HO : Hid (FO = (decide (2 ≤ n) && decide (n ≤ 2) && (decide (0 < T.size) == false))) := Lib.hid HF.out
    clear HF
    by_cases hn : n = 2
    · subst hn
      by_cases h3 : 0 < T.size
      · have q := empty_not h3
        have D3 : Hid (decide (0 < T.size) = true) := Lib.hid (decide_eq_true h3)
        clear h3
        go_enter Tryz.func49, Tryz.ntmps49
        go_wp2_with fail
        go_ret
        exact ⟨by rw [HO.out, D3.out]; rfl, hb⟩
      · have q := empty_is (show T.size = 0 by omega)
        have D3 : Hid (decide (0 < T.size) = false) := Lib.hid (decide_eq_false h3)
        clear h3
        go_enter Tryz.func49, Tryz.ntmps49
        go_wp2_with fail
        go_ret
        exact ⟨by rw [HO.out, D3.out]; rfl, hb⟩
    · have hq : ((n : Int) == 2) = false := by simp; omega
      have D3 : Hid ((decide (2 ≤ n) && decide (n ≤ 2)) = false) := Lib.hid (by simp; omega)
      clear hn
      go_enter Tryz.func49, Tryz.ntmps49
      go_wp2_with fail
      go_ret
      exact ⟨by rw [HO.out, D3.out]; rfl, hb⟩
  by_cases hk12 : K = 12
  · subst hk12
    have HO : Hid (FO = (decide (2 ≤ n) && decide (n ≤ 2) && (decide (0 < T.size) == false))) := Lib.hid HF.out
    clear HF
    by_cases hn : n = 2
    · subst hn
      by_cases h3 : 0 < T.size
      · have q := empty_not h3
        have D3 : Hid (decide (0 < T.size) = true) := Lib.hid (decide_eq_true h3)
        clear h3
        go_enter Tryz.func49, Tryz.ntmps49
        go_wp2_with fail
        go_ret
        exact ⟨by rw [HO.out, D3.out]; rfl, hb⟩
      · have q := empty_is (show T.size = 0 by omega)
        have D3 : Hid (decide (0 < T.size) = false) := Lib.hid (decide_eq_false h3)
        clear h3
        go_enter Tryz.func49, Tryz.ntmps49
        go_wp2_with fail
        go_ret
        exact ⟨by rw [HO.out, D3.out]; rfl, hb⟩
    · have hq : ((n : Int) == 2) = false := by simp; omega
      have D3 : Hid ((decide (2 ≤ n) && decide (n ≤ 2)) = false) := Lib.hid (by simp; omega)
      clear hn
      go_enter Tryz.func49, Tryz.ntmps49
      go_wp2_with fail
      go_ret
      exact ⟨by rw [HO.out, D3.out]; rfl, hb⟩
  by_cases hk7 : K = 7
  · subst hk7
    have HO : Hid (FO = (decide (3 ≤ n) && decide (n ≤ 3) && (decide (0 < T.size) == false))) := Lib.hid HF.out
    clear HF
    by_cases hn : n = 3
    · subst hn
      by_cases h3 : 0 < T.size
      · have q := empty_not h3
        have D3 : Hid (decide (0 < T.size) = true) := Lib.hid (decide_eq_true h3)
        clear h3
        go_enter Tryz.func49, Tryz.ntmps49
        go_wp2_with fail
        go_ret
        exact ⟨by rw [HO.out, D3.out]; rfl, hb⟩
      · have q := empty_is (show T.size = 0 by omega)
        have D3 : Hid (decide (0 < T.size) = false) := Lib.hid (decide_eq_false h3)
        clear h3
        go_enter Tryz.func49, Tryz.ntmps49
        go_wp2_with fail
        go_ret
        exact ⟨by rw [HO.out, D3.out]; rfl, hb⟩
    · have hq : ((n : Int) == 3) = false := by simp; omega
      have D3 : Hid ((decide (3 ≤ n) && decide (n ≤ 3)) = false) := Lib.hid (by simp; omega)
      clear hn
      go_enter Tryz.func49, Tryz.ntmps49
      go_wp2_with fail
      go_ret
      exact ⟨by rw [HO.out, D3.out]; rfl, hb⟩
  by_cases hk11 : K = 11
  · subst hk11
    have HO : Hid (FO = (decide (1 ≤ n) && decide (n ≤ 1048576) && (decide (0 < T.size) == false))) := Lib.hid HF.out
    clear HF
    by_cases hn : 1 ≤ n
    · have D4 : Hid ((decide (1 ≤ n) && decide (n ≤ 1048576)) = true) := Lib.hid (by simp; omega)
      by_cases h3 : 0 < T.size
      · have q := empty_not h3
        have D3 : Hid (decide (0 < T.size) = true) := Lib.hid (decide_eq_true h3)
        clear h3
        go_enter Tryz.func49, Tryz.ntmps49
        go_wp2_with fail
        go_ret
        exact ⟨by rw [HO.out, D4.out, D3.out]; rfl, hb⟩
      · have q := empty_is (show T.size = 0 by omega)
        have D3 : Hid (decide (0 < T.size) = false) := Lib.hid (decide_eq_false h3)
        clear h3
        go_enter Tryz.func49, Tryz.ntmps49
        go_wp2_with fail
        go_ret
        exact ⟨by rw [HO.out, D4.out, D3.out]; rfl, hb⟩
    · have hq : decide ((1 : Int) ≤ (n : Int)) = false := by simp; omega
      have D3 : Hid ((decide (1 ≤ n) && decide (n ≤ 1048576)) = false) := Lib.hid (by simp; omega)
      have hn0 : n = 0 := by omega
      subst hn0
      clear hn
      go_enter Tryz.func49, Tryz.ntmps49
      go_wp2_with fail
      go_ret
      exact ⟨by rw [HO.out]; rfl, hb⟩
  have HO : Hid (FO = false) := Lib.hid (by have h := HF.out; simpa [formAt, hk1, hk2, hk3, hk4, hk9, hk14, hk13, hk5, hk8, hk10, hk6, hk12, hk7, hk11] using h)
  clear HF
  have e1 : (K == 1) = false := by simpa using hk1
  have e2 : (K == 2) = false := by simpa using hk2
  have e3 : (K == 3) = false := by simpa using hk3
  have e4 : (K == 4) = false := by simpa using hk4
  have e9 : (K == 9) = false := by simpa using hk9
  have e14 : (K == 14) = false := by simpa using hk14
  have e13 : (K == 13) = false := by simpa using hk13
  have e5 : (K == 5) = false := by simpa using hk5
  have e8 : (K == 8) = false := by simpa using hk8
  have e10 : (K == 10) = false := by simpa using hk10
  have e6 : (K == 6) = false := by simpa using hk6
  have e12 : (K == 12) = false := by simpa using hk12
  have e7 : (K == 7) = false := by simpa using hk7
  have e11 : (K == 11) = false := by simpa using hk11
  clear hk1 hk2 hk3 hk4 hk9 hk14 hk13 hk5 hk8 hk10 hk6 hk12 hk7 hk11
  go_enter Tryz.func49, Tryz.ntmps49
  go_wp2_with fail
  go_ret
  exact ⟨by rw [HO.out]; rfl, hb⟩
end Go.Proofs.YtebejlnegalokaaGreatDoor.Nz
/-
  XNdD, turned: what this seat needs of it.
-/
namespace Go.Proofs.YtebejlnegalokaaGreatDoor.Nz
open Go.RowKit
/-- How often each of n places is among numbers. -/
def cnts (n : Nat) (L : List Int) : List Int := (List.range n).map fun (j : Nat) => ((L.count (j : Int) : Nat) : Int)
theorem cnts_length (n : Nat) (L : List Int) : (cnts n L).length = n := by simp [cnts]
theorem cnts_get {n : Nat} {L : List Int} {j : Nat} (h : j < n) : (cnts n L)[j]? = some ((L.count (j : Int) : Nat) : Int) := by simp [cnts, h]
theorem cnts_none (n : Nat) : cnts n [] = List.replicate n 0 := by
  apply List.ext_getElem?
  intro j
  by_cases h : j < n
  · rw [cnts_get h]; simp [h]
  · simp [cnts, h]
theorem cnts_put {n : Nat} {L : List Int} {k : Int} (h0 : 0 ≤ k) (h1 : k < n) : (cnts n L).set k.toNat (((L.count k : Nat) : Int) + 1) = cnts n (L ++ [k]) := by
  apply List.ext_getElem?
  intro j
  by_cases h : j < n
  · rw [cnts_get h, List.getElem?_set]
    by_cases hj : k.toNat = j
    · subst hj
      have e : ((k.toNat : Nat) : Int) = k := by omega
      rw [if_pos rfl, if_pos (by rw [cnts_length]; exact h), e]
      simp
    · rw [if_neg hj, cnts_get h]
      have : ¬ k = (j : Int) := by omega
      simp [this]
  · rw [List.getElem?_eq_none (by rw [List.length_set, cnts_length]; omega), List.getElem?_eq_none (by rw [cnts_length]; omega)]
theorem notOne_any (x : Int) (w : World) : Calls Tryz.prog 48 #[.int .i64 x] w fun e w' => e = .returned (.bool (x != 1)) ∧ w' = w := by
  go_enter Tryz.func48, Tryz.ntmps48
  by_cases h : x = 1
  · subst h
    go_wp2
    go_ret
    exact ⟨rfl, rfl⟩
  · have q : (x != 1) = true := by simp [h]
    go_wp2
    go_ret
    rw [q]; exact ⟨rfl, rfl⟩
/-- Which number is the first that isn't one? -/
def oddAt : List Int → Nat → Int
  | [], _ => -1
  | x :: l, k => if x = 1 then oddAt l (k + 1) else k
theorem oddAt_any : ∀ (l : List Int) (k : Nat), decide (0 ≤ oddAt l k) = l.any (· != 1)
  | [], k => by simp [oddAt]
  | x :: l, k => by
    unfold oddAt
    by_cases h : x = 1
    · rw [if_pos h, oddAt_any l (k + 1)]; simp [h]
    · rw [if_neg h]; simp [h]
theorem indexFunc_any (A : Option Addr) (l : List Int) (c : Nat) (w : World) (hl : l.length ≤ 1000000) (hh : HoldsI w A l) :
    Calls Tryz.prog 68 #[.slice A l.length c, .func (.func 48) #[] #[]] w fun e w' => e = .returned (.int .i64 (oddAt l 0)) ∧ w' = w := by
  have HO := Lib.hid (fun x W => notOne_any x W)
  have HH := Lib.hid hh
  clear hh
  generalize hn : oddAt l 0 = o
  go_enter Tryz.func68, Tryz.ntmps68
  go_wp2
  go_loopw [8] (fun v wr => ∃ k : Nat, v = .int .i64 k ∧ k ≤ l.length ∧ wr = w ∧ Hid (oddAt (l.drop k) k = o)) (fun v _ => l.length - (intOf v).toNat)
  case atStart => exact ⟨0, rfl, Nat.zero_le _, rfl, Lib.hid hn⟩
  case round =>
    obtain ⟨k, rfl, hk, rfl, HG⟩ := hrel
    by_cases hlt : k < l.length
    · have g := List.getElem?_eq_getElem hlt
      obtain ⟨b, off, rfl, c1⟩ := HH.out k _ g
      have HS : Hid ((if l[k] = 1 then oddAt (l.drop (k + 1)) (k + 1) else (k : Int)) = o) := Lib.hid (by rw [← HG.out, List.drop_eq_getElem_cons hlt]; rfl)
      generalize l[k] = x at *
      clear g HG
      go_wp2_with fail
      refine (HO.out _ _).mono ?_
      rintro e w1 ⟨rfl, rfl⟩
      by_cases h1 : x = 1
      · have q : (x != 1) = false := by simp [h1]
        have HS2 : Hid (oddAt (l.drop (k + 1)) (k + 1) = o) := Lib.hid (by rw [← HS.out, if_pos h1])
        rw [q]
        go_wp2
        go_roundw
        case rel => exact ⟨k + 1, by go_num, by omega, trivial, HS2⟩
        case measure => simp [intOf]; omega
      · have q : (x != 1) = true := by simp [h1]
        have HS2 : Hid ((k : Int) = o) := Lib.hid (by rw [← HS.out, if_neg h1])
        rw [q]
        go_wp2
        go_ret
        rw [← HS2.out]; exact ⟨rfl, rfl⟩
    · obtain rfl : k = l.length := by omega
      have HS2 : Hid (-1 = o) := Lib.hid (by rw [← HG.out, List.drop_of_length_le (Nat.le_refl _)]; rfl)
      go_wp2
      go_ret
      rw [← HS2.out]; exact ⟨rfl, rfl⟩
theorem containsFunc_any (A : Option Addr) (l : List Int) (c : Nat) (w : World) (hl : l.length ≤ 1000000) (hh : HoldsI w A l) :
    Calls Tryz.prog 47 #[.slice A l.length c, .func (.func 48) #[] #[]] w fun e w' => e = .returned (.bool (l.any (· != 1))) ∧ w' = w := by
  have H := Lib.hid (indexFunc_any A l c w hl hh)
  have HA := Lib.hid (oddAt_any l 0)
  generalize l.any (· != 1) = b at *
  generalize oddAt l 0 = o at *
  clear hh
  go_enter Tryz.func47, Tryz.ntmps47
  go_wp2_with fail
  refine H.out.mono ?_
  rintro e w1 ⟨rfl, rfl⟩
  by_cases ho : 0 ≤ o
  · have HB : Hid (b = true) := Lib.hid (by rw [← HA.out]; exact decide_eq_true ho)
    go_wp2
    go_ret
    rw [HB.out]; exact ⟨rfl, rfl⟩
  · have HB : Hid (b = false) := Lib.hid (by rw [← HA.out]; exact decide_eq_false ho)
    go_wp2
    go_ret
    have ho2 : decide (0 ≤ o) = false := decide_eq_false (by omega)
    rw [HB.out, ho2]; exact ⟨rfl, rfl⟩
end Go.Proofs.YtebejlnegalokaaGreatDoor.Nz
/-
  XNdE, turned: what this seat needs of it.
-/
namespace Go.Proofs.YtebejlnegalokaaGreatDoor.Nz
open Go.RowKit
theorem infoInt : (Tryz.prog.info? 3).map (fun i => (i.zero, i.size, i.bytes)) = some (some (.int .i64 0), 1, 8) := by kernel_rfl
theorem intCells_set (l : List Int) (k : Nat) (x : Int) : (intCells l).set k (.int .i64 x) = intCells (l.set k x) := by simp [intCells, List.map_set]
/-- A made slice of n numbers. -/
theorem made_ints (w : World) (n : Nat) (hn : n ≤ 1000000) : (w.alloc (.cells (madeCells #[.int .i64 0] n) 3)).ownsRow w.heap.size 3 1 (.slice (some ⟨w.heap.size, 0, none⟩) n n) n (intCells (cnts n [])) := by
  rw [cnts_none, show intCells (List.replicate n 0) = (madeCells #[.int .i64 0] n).toList by rw [toList_madeCells_one]; simp [intCells]]
  exact World.ownsRow_lit w _ n (Nat.le_refl _) (by unfold maxLen; omega) (by rw [size_madeCells, Nat.mul_one])
theorem kidsAll_app (a b : List Nd) : kidsAll (a ++ b) = kidsAll a ++ kidsAll b := by simp [kidsAll]
theorem count_le (L : List Int) (k : Int) : L.count k ≤ L.length := List.count_le_length
theorem kidsAll_le : ∀ (l : List Nd), (∀ x ∈ l, x.kids.length ≤ 1000) → (kidsAll l).length ≤ 1000 * l.length
  | [], _ => by simp [kidsAll]
  | x :: l, h => by
    have h1 := kidsAll_le l (fun y hy => h y (List.mem_cons_of_mem _ hy))
    have h2 := h x List.mem_cons_self
    have : kidsAll (x :: l) = x.kids ++ kidsAll l := by simp [kidsAll]
    rw [this, List.length_append, List.length_cons]
    omega
theorem take_one {α : Type} {l : List α} {k : Nat} {x : α} (h : l[k]? = some x) : l.take (k + 1) = l.take k ++ [x] := by
  rw [List.take_add_one, h]; rfl
theorem drop_one {α : Type} {l : List α} {k : Nat} {x : α} (h : l[k]? = some x) : l.drop k = x :: l.drop (k + 1) := by
  have hk : k < l.length := by
    rcases Nat.lt_or_ge k l.length with h1 | h1
    · exact h1
    · rw [List.getElem?_eq_none h1] at h; cases h
  rw [List.drop_eq_getElem_cons hk]
  rw [List.getElem?_eq_getElem hk] at h
  rw [Option.some.inj h]
/-- The end of it. -/
theorem right_end {n : Nat} {L : List Int} (h1 : 1 ≤ n) (hL : ∀ k ∈ L, 0 ≤ k ∧ k + 1 < (n : Int)) :
    (!(((cnts n L).set (n - 1) (((L.count (((n - 1 : Nat) : Int))) : Int) + 1)).any (· != 1))) = (List.range (n - 1)).all fun (j : Nat) => L.count (j : Int) == 1 := by
  have hz : L.count ((n - 1 : Nat) : Int) = 0 := List.count_eq_zero_of_not_mem (fun hm => by have := hL _ hm; omega)
  rw [hz]
  rw [Bool.eq_iff_iff]
  simp only [Bool.not_eq_true', List.any_eq_false, List.all_eq_true, List.mem_range, beq_iff_eq, bne_iff_ne, ne_eq, Decidable.not_not]
  constructor
  · intro h j hj
    have hm : (((L.count (j : Int)) : Nat) : Int) ∈ (cnts n L).set (n - 1) (((0 : Nat) : Int) + 1) := by
      refine List.mem_of_getElem? (i := j) ?_
      rw [List.getElem?_set, if_neg (by omega), cnts_get (by omega)]
    have := h _ hm
    omega
  · intro h x hx
    obtain ⟨j, hj⟩ := List.getElem?_of_mem hx
    have hlt : j < n := by
      rcases Nat.lt_or_ge j n with h1 | h1
      · exact h1
      · rw [List.getElem?_eq_none (by rw [List.length_set, cnts_length]; exact h1)] at hj; cases hj
    rw [List.getElem?_set] at hj
    by_cases e : n - 1 = j
    · rw [if_pos e, if_pos (by rw [cnts_length]; omega)] at hj
      have := Option.some.inj hj
      omega
    · rw [if_neg e, cnts_get hlt] at hj
      have := h j (by omega)
      have := Option.some.inj hj
      omega
set_option maxRecDepth 100000 in
set_option maxHeartbeats 8000000 in
theorem right_any (t : List Nd) (A : Option Addr) (c : Nat) (w : World) (hh : HoldsN w A t) (hi : IntN t) :
    Calls Tryz.prog 26 #[.slice A t.length c] w fun e w' => e = .returned (.bool (rightN t)) ∧ Below w.heap.size w w' := by
  have HR : Hid (rightN t = (decide (1 ≤ t.length) && decide (t.length ≤ 400) && nodesOk 0 t && (List.range (t.length - 1)).all fun j => (kidsAll t).count (j : Int) == 1)) := Lib.hid rfl
  generalize rightN t = R at *
  have HH := Lib.hid hh
  have HI := Lib.hid hi
  clear hh hi
  have HF := Lib.hid isForm_any
  by_cases h1 : t.length < 1
  · have h1' : (t.length : Int) < 1 := by omega
    have HS : Hid (R = false) := Lib.hid (by rw [HR.out, decide_eq_false (show ¬ 1 ≤ t.length by omega)]; rfl)
    go_enter Tryz.func26, Tryz.ntmps26
    go_wp2
    go_ret
    rw [HS.out]
    exact ⟨rfl, Below.refl _ _⟩
  by_cases h2 : 400 < t.length
  · have h1' : ¬ (t.length : Int) < 1 := by omega
    have h2' : (400 : Int) < (t.length : Int) := by omega
    have HS : Hid (R = false) := Lib.hid (by rw [HR.out, decide_eq_false (show ¬ t.length ≤ 400 by omega)]; simp)
    go_enter Tryz.func26, Tryz.ntmps26
    go_wp2
    go_ret
    rw [HS.out]
    exact ⟨rfl, Below.refl _ _⟩
  have HS : Hid (R = (nodesOk 0 t && (List.range (t.length - 1)).all fun j => (kidsAll t).count (j : Int) == 1)) := Lib.hid (by rw [HR.out, decide_eq_true (show 1 ≤ t.length by omega), decide_eq_true (show t.length ≤ 400 by omega)]; rfl)
  clear HR
  have h1' : ¬ (t.length : Int) < 1 := by omega
  have h2' : ¬ (400 : Int) < (t.length : Int) := by omega
  have hmk := run_make_row' (P := Tryz.prog) 47 3 (.int .i64 0) 8 (by kernel_rfl) infoInt rfl .i64 .i64 t.length (by omega) (by omega)
  have hown0 := made_ints w t.length (by omega)
  have hb0 : Below w.heap.size w (w.alloc (.cells (madeCells #[.int .i64 0] t.length) 3)) := (Below.refl _ _).alloc (Nat.le_refl _) _
  go_enter Tryz.func26, Tryz.ntmps26
  go_wp2
  clear hmk
  generalize w.alloc (.cells (madeCells #[.int .i64 0] t.length) 3) = w1 at *
  go_loopw [22] (fun v wr => ∃ i : Nat, v = .int .i64 i ∧ i ≤ t.length ∧ Hid (nodesOk 0 t = nodesOk i (t.drop i)) ∧ Hid (∀ k ∈ kidsAll (t.take i), 0 ≤ k ∧ k + 1 < (i : Int)) ∧
      Hid (wr.ownsRow w.heap.size 3 1 (.slice (some ⟨w.heap.size, 0, none⟩) t.length t.length) t.length (intCells (cnts t.length (kidsAll (t.take i))))) ∧ Hid (Below w.heap.size w wr))
    (fun v _ => t.length - (intOf v).toNat)
  case atStart => exact ⟨0, rfl, Nat.zero_le _, Lib.hid rfl, Lib.hid (fun k hk => by simp [kidsAll] at hk), Lib.hid hown0, Lib.hid hb0⟩
  case round =>
    clear hown0 hb0
    obtain ⟨i, rfl, hi, HN, HK, HO, HB⟩ := hrel
    by_cases hlt : i < t.length
    · have g := List.getElem?_eq_getElem hlt
      have hmem := List.getElem_mem hlt
      generalize t[i] = x at *
      obtain ⟨b, off, rfl, c0, c1, B, c2, c3, hK, hc⟩ := HH.out i x g
      obtain ⟨z1, z2, z3, z4⟩ := HI.out x hmem
      have lb : b < w.heap.size := cell_lt c0
      have hb := HB.out
      have d0 := (hb.cell (p := ⟨b, _, none⟩) lb).trans c0
      have d1 := (hb.cell (p := ⟨b, _, none⟩) lb).trans c1
      have d2 := (hb.cell (p := ⟨b, _, none⟩) lb).trans c3
      have HKx := Lib.hid hK
      have HZ1 := Lib.hid z1
      have HG := Lib.hid g
      have HM := Lib.hid (take_one g)
      have HD : Hid (nodesOk i (t.drop i) = (kidsOk i (-1) x.kids && formOk x && nodesOk (i + 1) (t.drop (i + 1)))) := Lib.hid (by rw [drop_one g]; rfl)
      clear c0 c1 c3 hK g hmem z4 z1
      have hW0 : (wr.alloc (.cells #[.int .i64 x.kind, .string x.text, .slice B x.kids.length c2] 49)).heap[wr.heap.size]? = some (.cells #[.int .i64 x.kind, .string x.text, .slice B x.kids.length c2] 49 (0, 0)) := heap_alloc_new _ _
      have hBW0 : Below w.heap.size w (wr.alloc (.cells #[.int .i64 x.kind, .string x.text, .slice B x.kids.length c2] 49)) := hb.alloc hb.size _
      have hOW0 := HO.out.alloc (.cells #[.int .i64 x.kind, .string x.text, .slice B x.kids.length c2] 49)
      have hP : w.heap.size < wr.heap.size := by
        have h := HO.out
        exact ownBlock_lt h _ rfl
      clear hb
      go_wp2_with fail
      generalize (wr.alloc (.cells #[.int .i64 x.kind, .string x.text, .slice B x.kids.length c2] 49)) = W0 at *
      generalize hPP : wr.heap.size = P at *
      clear hPP HO HB d0 d1 d2
      go_loopw [6, 30] (fun l v wr => ∃ (q : Nat) (last : Int), l = .int .i64 last ∧ v = .int .i64 q ∧ q ≤ x.kids.length ∧ -1 ≤ last ∧ Hid (kidsOk i (-1) x.kids = kidsOk i last (x.kids.drop q)) ∧ Hid (∀ k ∈ x.kids.take q, 0 ≤ k ∧ k < (i : Int)) ∧
        Hid (wr.ownsRow w.heap.size 3 1 (.slice (some ⟨w.heap.size, 0, none⟩) t.length t.length) t.length (intCells (cnts t.length (kidsAll (t.take i) ++ x.kids.take q)))) ∧
        wr.heap[P]? = some (.cells #[.int .i64 x.kind, .string x.text, .slice B x.kids.length c2] 49 (0, 0)) ∧ Hid (Below w.heap.size w wr))
        (fun _ v _ => x.kids.length - (intOf v).toNat)
      case atStart => exact ⟨0, -1, rfl, rfl, Nat.zero_le _, by omega, Lib.hid rfl, Lib.hid (fun k hk => by simp at hk), Lib.hid (by rw [List.take_zero, List.append_nil]; exact hOW0), hW0, Lib.hid hBW0⟩
      case round =>
        clear hOW0 hW0 hBW0
        obtain ⟨q, last, rfl, rfl, hq, hl1, HKO, HKK, HO2, hrow, HB2⟩ := hrel
        by_cases hlt2 : q < x.kids.length
        · have g2 := List.getElem?_eq_getElem hlt2
          have HKS : Hid (kidsOk i last (x.kids.drop q) = (decide (last < x.kids[q]) && decide (x.kids[q] < i) && kidsOk i x.kids[q] (x.kids.drop (q + 1)))) := Lib.hid (by rw [drop_one g2]; rfl)
          have HM2 := Lib.hid (take_one g2)
          obtain ⟨b2, off2, rfl, e0⟩ := HKx.out q _ g2
          have hb2 := HB2.out
          have e1 := (hb2.cell (p := ⟨b2, _, none⟩) (cell_lt e0)).trans e0
          generalize x.kids[q] = k at *
          clear g2 e0 hb2
          by_cases hk1 : k ≤ last
          · have HSF : Hid (nodesOk 0 t = false) := Lib.hid (by rw [HN.out, HD.out, HKO.out, HKS.out, decide_eq_false (show ¬ last < k by omega)]; rfl)
            go_wp2_with fail
            go_ret
            rw [HS.out, HSF.out]
            exact ⟨rfl, HB2.out⟩
          by_cases hk2 : (i : Int) ≤ k
          · have HSF : Hid (nodesOk 0 t = false) := Lib.hid (by rw [HN.out, HD.out, HKO.out, HKS.out, decide_eq_false (show ¬ k < i by omega)]; simp)
            go_wp2_with fail
            go_ret
            rw [HS.out, HSF.out]
            exact ⟨rfl, HB2.out⟩
          have hk0 : 0 ≤ k := by omega
          have HKS2 : Hid (kidsOk i (-1) x.kids = kidsOk i k (x.kids.drop (q + 1))) := Lib.hid (by rw [HKO.out, HKS.out, decide_eq_true (show last < k by omega), decide_eq_true (show k < i by omega)]; simp)
          have hcnt : (kidsAll (t.take i) ++ x.kids.take q).count k ≤ 1000000 := by
            have h3 := count_le (kidsAll (t.take i) ++ x.kids.take q) k
            have h4 := kidsAll_le (t.take i) (fun y hy => (HI.out y (List.mem_of_mem_take hy)).2.1)
            rw [List.length_append] at h3
            simp only [List.length_take] at h3 h4
            omega
          have hkn : k.toNat < t.length := by omega
          have hget : (intCells (cnts t.length (kidsAll (t.take i) ++ x.kids.take q)))[k.toNat]? = some (.int .i64 ((kidsAll (t.take i) ++ x.kids.take q).count k)) := by
            simp only [intCells, List.getElem?_map, cnts_get hkn, Option.map_some]
            rw [show ((k.toNat : Nat) : Int) = k by omega]
          have e2 : wr.cell? ⟨w.heap.size, k.toNat, none⟩ = some (.int .i64 ((kidsAll (t.take i) ++ x.kids.take q).count k)) := (HO2.out.cellAt k.toNat (by omega)).trans hget
          have e3 : wr.frozen? ⟨w.heap.size, k.toNat, none⟩ = false := HO2.out.frozenAt k.toNat
          obtain ⟨ho3, hg3⟩ := HO2.out.stored k.toNat (.int .i64 ((((kidsAll (t.take i) ++ x.kids.take q).count k : Nat) : Int) + 1))
          have hrow3 := (hg3.block P (cell_lt (p := ⟨P, 0, none⟩) (v := .int .i64 x.kind) (by simp [World.cell?, hrow])) (by simp; omega)).trans hrow
          rw [intCells_set, cnts_put hk0 (by omega)] at ho3
          have HB3 := Lib.hid (HB2.out.setCell (p := ⟨w.heap.size, k.toNat, none⟩) (Nat.le_refl _) (.int .i64 ((((kidsAll (t.take i) ++ x.kids.take q).count k : Nat) : Int) + 1)))
          have HO3 := Lib.hid ho3
          generalize (kidsAll (t.take i) ++ x.kids.take q).count k = cn at *
          have hw3 : IntKind.i64.wrap ((cn : Int) + 1) = (cn : Int) + 1 := IntWalk.i64_in _ (by omega)
          have hkt : k < (t.length : Int) := by omega
          clear ho3 hg3 hget
          go_wp2_with fail
          go_roundw
          case rel =>
            refine ⟨q + 1, k, rfl, by go_num, by omega, by omega, HKS2, Lib.hid ?_, Lib.hid ?_, hrow3, HB3⟩
            · rw [HM2.out]
              intro y hy
              rcases List.mem_append.1 hy with hy | hy
              · exact HKK.out y hy
              · rw [List.mem_singleton.1 hy]; omega
            · rw [HM2.out, ← List.append_assoc]; exact HO3.out
          case measure => simp [intOf]; omega
        · obtain rfl : q = x.kids.length := by omega
          have HKK2 : Hid (∀ k ∈ x.kids, 0 ≤ k ∧ k < (i : Int)) := Lib.hid (by have h := HKK.out; rwa [List.take_of_length_le (Nat.le_refl _)] at h)
          have HO3 : Hid (wr.ownsRow w.heap.size 3 1 (.slice (some ⟨w.heap.size, 0, none⟩) t.length t.length) t.length (intCells (cnts t.length (kidsAll (t.take (i + 1)))))) := Lib.hid (by
            have h := HO2.out
            rw [List.take_of_length_le (Nat.le_refl _)] at h
            rw [HM.out, kidsAll_app, show kidsAll [x] = x.kids by simp [kidsAll]]
            exact h)
          have HD2 : Hid (nodesOk i (t.drop i) = (formOk x && nodesOk (i + 1) (t.drop (i + 1)))) := Lib.hid (by rw [HD.out, HKO.out, List.drop_of_length_le (Nat.le_refl _)]; simp [kidsOk])
          have e0 : wr.cell? ⟨P, 0, none⟩ = some (.int .i64 x.kind) := by simp [World.cell?, hrow]
          have e1 : wr.cell? ⟨P, 1, none⟩ = some (.string x.text) := by simp [World.cell?, hrow]
          have e2 : wr.cell? ⟨P, 2, none⟩ = some (.slice B x.kids.length c2) := by simp [World.cell?, hrow]
          have HFx := Lib.hid (fun W => HF.out x B c2 W HZ1.out (by omega))
          unfold Nd.value at HFx
          have HFO : Hid (∃ bo, formOk x = bo) := Lib.hid ⟨_, rfl⟩
          clear HD HKO hrow HO2 HF
          go_wp2_with fail
          refine (HFx.out _).mono ?_
          rintro e w4 ⟨rfl, hb4⟩
          clear HFx
          cases hfo : formOk x
          · have HSF : Hid (nodesOk 0 t = false) := Lib.hid (by rw [HN.out, HD2.out, hfo]; rfl)
            clear hfo
            go_wp2_with fail
            go_ret
            rw [HS.out, HSF.out]
            exact ⟨rfl, HB2.out.trans (hb4.mono HB2.out.size)⟩
          · have HSN : Hid (nodesOk 0 t = nodesOk (i + 1) (t.drop (i + 1))) := Lib.hid (by rw [HN.out, HD2.out, hfo]; rfl)
            clear hfo
            go_wp2_with fail
            go_roundw
            case rel =>
              refine ⟨i + 1, by go_num, by omega, HSN, Lib.hid ?_, Lib.hid (own_below HO3.out hb4), Lib.hid (HB2.out.trans (hb4.mono HB2.out.size))⟩
              intro y hy
              rw [HM.out, kidsAll_app, show kidsAll [x] = x.kids by simp [kidsAll]] at hy
              rcases List.mem_append.1 hy with hy | hy
              · have := HK.out y hy; omega
              · have := HKK2.out y hy; omega
            case measure => simp [intOf]; omega
    · obtain rfl : i = t.length := by omega
      have hc0 : (kidsAll t).count ((t.length - 1 : Nat) : Int) ≤ 1000000 := by
        have h3 := count_le (kidsAll t) ((t.length - 1 : Nat) : Int)
        have h4 := kidsAll_le t (fun y hy => (HI.out y hy).2.1)
        omega
      have ho := HO.out
      have hk := HK.out
      rw [List.take_of_length_le (Nat.le_refl _)] at ho hk
      have hnok : Hid (nodesOk 0 t = true) := Lib.hid (by rw [HN.out, List.drop_of_length_le (Nat.le_refl _)]; rfl)
      have hend := right_end (by omega) hk
      have hget : (intCells (cnts t.length (kidsAll t)))[t.length - 1]? = some (.int .i64 ((kidsAll t).count ((t.length - 1 : Nat) : Int))) := by
        simp only [intCells, List.getElem?_map, cnts_get (show t.length - 1 < t.length by omega), Option.map_some]
      have e2 : wr.cell? ⟨w.heap.size, t.length - 1, none⟩ = some (.int .i64 ((kidsAll t).count ((t.length - 1 : Nat) : Int))) := (ho.cellAt (t.length - 1) (by omega)).trans hget
      have e3 : wr.frozen? ⟨w.heap.size, t.length - 1, none⟩ = false := ho.frozenAt (t.length - 1)
      obtain ⟨ho3, hg3⟩ := ho.stored (t.length - 1) (.int .i64 ((((kidsAll t).count ((t.length - 1 : Nat) : Int) : Nat) : Int) + 1))
      rw [intCells_set] at ho3
      have HS2 : Hid (R = (!(((cnts t.length (kidsAll t)).set (t.length - 1) ((((kidsAll t).count ((t.length - 1 : Nat) : Int) : Nat) : Int) + 1)).any (· != 1)))) := Lib.hid (by rw [HS.out, hnok.out, hend]; rfl)
      have hlen2 : ((cnts t.length (kidsAll t)).set (t.length - 1) ((((kidsAll t).count ((t.length - 1 : Nat) : Int) : Nat) : Int) + 1)).length = t.length := by rw [List.length_set, cnts_length]
      have HB3 := Lib.hid (HB.out.setCell (p := ⟨w.heap.size, t.length - 1, none⟩) (Nat.le_refl _) (.int .i64 ((((kidsAll t).count ((t.length - 1 : Nat) : Int) : Nat) : Int) + 1)))
      generalize (kidsAll t).count ((t.length - 1 : Nat) : Int) = cn at *
      generalize (cnts t.length (kidsAll t)).set (t.length - 1) ((cn : Int) + 1) = U at *
      obtain ⟨AU, cU, eU, hnU, hHU, hcU⟩ := holdsI_of_own ho3
      simp only [Value.slice.injEq] at eU
      obtain ⟨rfl, -, rfl⟩ := eU
      have Hcf := Lib.hid (containsFunc_any (some ⟨w.heap.size, 0, none⟩) U t.length _ (by omega) hHU)
      rw [hlen2] at Hcf
      have hw3 : IntKind.i64.wrap ((cn : Int) + 1) = (cn : Int) + 1 := IntWalk.i64_in _ (by omega)
      have hw4 : IntKind.i64.wrap ((t.length : Int) - 1) = (t.length : Int) - 1 := IntWalk.i64_in _ (by omega)
      have hw5 : ((t.length : Int) - 1).toNat = t.length - 1 := by omega
      have hw6 : (0 : Int) ≤ (t.length : Int) - 1 := by omega
      have hw7 : (t.length : Int) - 1 < (t.length : Int) := by omega
      clear ho ho3 hg3 hget hk hend hnok HO hnU hHU hlen2
      go_wp2_with fail
      refine Hcf.out.mono ?_
      rintro e w4 ⟨rfl, rfl⟩
      go_wp2
      go_ret
      rw [HS2.out]
      exact ⟨rfl, HB3.out⟩
end Go.Proofs.YtebejlnegalokaaGreatDoor.Nz
