/-
  Whether a node's form is right: by the reference.
-/
import Derived.Test.YtbcgdkhkljeomaaDoorProg
import Derived.Test.YtbcgdkhkljeomaaDoorReg
import Derived.WalkKit
import Derived.WalkSpells
import Derived.WalkLawsBesides
import Derived.Lib.Hide
import Derived.Lib.MinMax
import Derived.Deep.QuietTactic
import Derived.BigQuiet
import Derived.OwnWalk
import Derived.Deep.AppendLies
import Derived.KernelRfl
import Derived.Test.YtbcgdkhkljeomaaDoorNdB
set_option linter.unusedSimpArgs false
set_option linter.unusedVariables false
namespace Go.Proofs.YtbcgdkhkljeomaaDoor
open Go.RowKit

set_option maxRecDepth 100000 in
set_option maxHeartbeats 8000000 in
theorem refForm_any (x : Nd) (B : Option Addr) (c : Nat) (w : World) (hl : x.kids.length ≤ 1000000) :
    Calls Tryd.prog 40 #[x.value B c] w fun e w' => e = .returned (.bool (formOk x)) ∧ Below w.heap.size w w' := by
  unfold Nd.value
  have hb : Below w.heap.size w (w.alloc (.cells #[.int .i64 x.kind, .string x.text, .slice B x.kids.length c] 37)) := (Below.refl _ _).alloc (Nat.le_refl _) _
  have HF : Hid (formOk x = match formAt x.kind with
    | none => false
    | some (a, b, h) => decide (a ≤ x.kids.length) && decide (x.kids.length ≤ b) && (decide (0 < x.text.size) == h)) := Lib.hid rfl
  generalize formOk x = FO at *
  generalize x.kind = K at *
  generalize x.kids.length = n at *
  generalize x.text = T at *
  by_cases hk1 : K = 1
  · subst hk1
    have HO : Hid (FO = (decide (0 ≤ n) && decide (n ≤ 0) && (decide (0 < T.size) == true))) := Lib.hid HF.out
    clear HF
    by_cases hn : n = 0
    · subst hn
      by_cases h3 : 0 < T.size
      · have q := empty_not h3
        have D3 : Hid (decide (0 < T.size) = true) := Lib.hid (decide_eq_true h3)
        clear h3
        go_enter Tryd.func40, Tryd.ntmps40
        go_wp2_with fail
        go_ret
        exact ⟨by rw [HO.out, D3.out]; rfl, hb⟩
      · have q := empty_is (show T.size = 0 by omega)
        have D3 : Hid (decide (0 < T.size) = false) := Lib.hid (decide_eq_false h3)
        clear h3
        go_enter Tryd.func40, Tryd.ntmps40
        go_wp2_with fail
        go_ret
        exact ⟨by rw [HO.out, D3.out]; rfl, hb⟩
    · have hq : ((n : Int) == 0) = false := by simp; omega
      have D3 : Hid ((decide (0 ≤ n) && decide (n ≤ 0)) = false) := Lib.hid (by simp; omega)
      clear hn
      go_enter Tryd.func40, Tryd.ntmps40
      go_wp2_with fail
      go_ret
      exact ⟨by rw [HO.out, D3.out]; rfl, hb⟩
  by_cases hk2 : K = 2
  · subst hk2
    have HO : Hid (FO = (decide (0 ≤ n) && decide (n ≤ 0) && (decide (0 < T.size) == true))) := Lib.hid HF.out
    clear HF
    by_cases hn : n = 0
    · subst hn
      by_cases h3 : 0 < T.size
      · have q := empty_not h3
        have D3 : Hid (decide (0 < T.size) = true) := Lib.hid (decide_eq_true h3)
        clear h3
        go_enter Tryd.func40, Tryd.ntmps40
        go_wp2_with fail
        go_ret
        exact ⟨by rw [HO.out, D3.out]; rfl, hb⟩
      · have q := empty_is (show T.size = 0 by omega)
        have D3 : Hid (decide (0 < T.size) = false) := Lib.hid (decide_eq_false h3)
        clear h3
        go_enter Tryd.func40, Tryd.ntmps40
        go_wp2_with fail
        go_ret
        exact ⟨by rw [HO.out, D3.out]; rfl, hb⟩
    · have hq : ((n : Int) == 0) = false := by simp; omega
      have D3 : Hid ((decide (0 ≤ n) && decide (n ≤ 0)) = false) := Lib.hid (by simp; omega)
      clear hn
      go_enter Tryd.func40, Tryd.ntmps40
      go_wp2_with fail
      go_ret
      exact ⟨by rw [HO.out, D3.out]; rfl, hb⟩
  by_cases hk3 : K = 3
  · subst hk3
    have HO : Hid (FO = (decide (0 ≤ n) && decide (n ≤ 0) && (decide (0 < T.size) == true))) := Lib.hid HF.out
    clear HF
    by_cases hn : n = 0
    · subst hn
      by_cases h3 : 0 < T.size
      · have q := empty_not h3
        have D3 : Hid (decide (0 < T.size) = true) := Lib.hid (decide_eq_true h3)
        clear h3
        go_enter Tryd.func40, Tryd.ntmps40
        go_wp2_with fail
        go_ret
        exact ⟨by rw [HO.out, D3.out]; rfl, hb⟩
      · have q := empty_is (show T.size = 0 by omega)
        have D3 : Hid (decide (0 < T.size) = false) := Lib.hid (decide_eq_false h3)
        clear h3
        go_enter Tryd.func40, Tryd.ntmps40
        go_wp2_with fail
        go_ret
        exact ⟨by rw [HO.out, D3.out]; rfl, hb⟩
    · have hq : ((n : Int) == 0) = false := by simp; omega
      have D3 : Hid ((decide (0 ≤ n) && decide (n ≤ 0)) = false) := Lib.hid (by simp; omega)
      clear hn
      go_enter Tryd.func40, Tryd.ntmps40
      go_wp2_with fail
      go_ret
      exact ⟨by rw [HO.out, D3.out]; rfl, hb⟩
  by_cases hk4 : K = 4
  · subst hk4
    have HO : Hid (FO = (decide (0 ≤ n) && decide (n ≤ 0) && (decide (0 < T.size) == true))) := Lib.hid HF.out
    clear HF
    by_cases hn : n = 0
    · subst hn
      by_cases h3 : 0 < T.size
      · have q := empty_not h3
        have D3 : Hid (decide (0 < T.size) = true) := Lib.hid (decide_eq_true h3)
        clear h3
        go_enter Tryd.func40, Tryd.ntmps40
        go_wp2_with fail
        go_ret
        exact ⟨by rw [HO.out, D3.out]; rfl, hb⟩
      · have q := empty_is (show T.size = 0 by omega)
        have D3 : Hid (decide (0 < T.size) = false) := Lib.hid (decide_eq_false h3)
        clear h3
        go_enter Tryd.func40, Tryd.ntmps40
        go_wp2_with fail
        go_ret
        exact ⟨by rw [HO.out, D3.out]; rfl, hb⟩
    · have hq : ((n : Int) == 0) = false := by simp; omega
      have D3 : Hid ((decide (0 ≤ n) && decide (n ≤ 0)) = false) := Lib.hid (by simp; omega)
      clear hn
      go_enter Tryd.func40, Tryd.ntmps40
      go_wp2_with fail
      go_ret
      exact ⟨by rw [HO.out, D3.out]; rfl, hb⟩
  by_cases hk9 : K = 9
  · subst hk9
    have HO : Hid (FO = (decide (0 ≤ n) && decide (n ≤ 0) && (decide (0 < T.size) == true))) := Lib.hid HF.out
    clear HF
    by_cases hn : n = 0
    · subst hn
      by_cases h3 : 0 < T.size
      · have q := empty_not h3
        have D3 : Hid (decide (0 < T.size) = true) := Lib.hid (decide_eq_true h3)
        clear h3
        go_enter Tryd.func40, Tryd.ntmps40
        go_wp2_with fail
        go_ret
        exact ⟨by rw [HO.out, D3.out]; rfl, hb⟩
      · have q := empty_is (show T.size = 0 by omega)
        have D3 : Hid (decide (0 < T.size) = false) := Lib.hid (decide_eq_false h3)
        clear h3
        go_enter Tryd.func40, Tryd.ntmps40
        go_wp2_with fail
        go_ret
        exact ⟨by rw [HO.out, D3.out]; rfl, hb⟩
    · have hq : ((n : Int) == 0) = false := by simp; omega
      have D3 : Hid ((decide (0 ≤ n) && decide (n ≤ 0)) = false) := Lib.hid (by simp; omega)
      clear hn
      go_enter Tryd.func40, Tryd.ntmps40
      go_wp2_with fail
      go_ret
      exact ⟨by rw [HO.out, D3.out]; rfl, hb⟩
  by_cases hk14 : K = 14
  · subst hk14
    have HO : Hid (FO = (decide (0 ≤ n) && decide (n ≤ 0) && (decide (0 < T.size) == true))) := Lib.hid HF.out
    clear HF
    by_cases hn : n = 0
    · subst hn
      by_cases h3 : 0 < T.size
      · have q := empty_not h3
        have D3 : Hid (decide (0 < T.size) = true) := Lib.hid (decide_eq_true h3)
        clear h3
        go_enter Tryd.func40, Tryd.ntmps40
        go_wp2_with fail
        go_ret
        exact ⟨by rw [HO.out, D3.out]; rfl, hb⟩
      · have q := empty_is (show T.size = 0 by omega)
        have D3 : Hid (decide (0 < T.size) = false) := Lib.hid (decide_eq_false h3)
        clear h3
        go_enter Tryd.func40, Tryd.ntmps40
        go_wp2_with fail
        go_ret
        exact ⟨by rw [HO.out, D3.out]; rfl, hb⟩
    · have hq : ((n : Int) == 0) = false := by simp; omega
      have D3 : Hid ((decide (0 ≤ n) && decide (n ≤ 0)) = false) := Lib.hid (by simp; omega)
      clear hn
      go_enter Tryd.func40, Tryd.ntmps40
      go_wp2_with fail
      go_ret
      exact ⟨by rw [HO.out, D3.out]; rfl, hb⟩
  by_cases hk13 : K = 13
  · subst hk13
    have HO : Hid (FO = (decide (0 ≤ n) && decide (n ≤ 0) && (decide (0 < T.size) == true))) := Lib.hid HF.out
    clear HF
    by_cases hn : n = 0
    · subst hn
      by_cases h3 : 0 < T.size
      · have q := empty_not h3
        have D3 : Hid (decide (0 < T.size) = true) := Lib.hid (decide_eq_true h3)
        clear h3
        go_enter Tryd.func40, Tryd.ntmps40
        go_wp2_with fail
        go_ret
        exact ⟨by rw [HO.out, D3.out]; rfl, hb⟩
      · have q := empty_is (show T.size = 0 by omega)
        have D3 : Hid (decide (0 < T.size) = false) := Lib.hid (decide_eq_false h3)
        clear h3
        go_enter Tryd.func40, Tryd.ntmps40
        go_wp2_with fail
        go_ret
        exact ⟨by rw [HO.out, D3.out]; rfl, hb⟩
    · have hq : ((n : Int) == 0) = false := by simp; omega
      have D3 : Hid ((decide (0 ≤ n) && decide (n ≤ 0)) = false) := Lib.hid (by simp; omega)
      clear hn
      go_enter Tryd.func40, Tryd.ntmps40
      go_wp2_with fail
      go_ret
      exact ⟨by rw [HO.out, D3.out]; rfl, hb⟩
  by_cases hk5 : K = 5
  · subst hk5
    have HO : Hid (FO = (decide (1 ≤ n) && decide (n ≤ 1) && (decide (0 < T.size) == false))) := Lib.hid HF.out
    clear HF
    by_cases hn : n = 1
    · subst hn
      by_cases h3 : 0 < T.size
      · have q := empty_not h3
        have D3 : Hid (decide (0 < T.size) = true) := Lib.hid (decide_eq_true h3)
        clear h3
        go_enter Tryd.func40, Tryd.ntmps40
        go_wp2_with fail
        go_ret
        exact ⟨by rw [HO.out, D3.out]; rfl, hb⟩
      · have q := empty_is (show T.size = 0 by omega)
        have D3 : Hid (decide (0 < T.size) = false) := Lib.hid (decide_eq_false h3)
        clear h3
        go_enter Tryd.func40, Tryd.ntmps40
        go_wp2_with fail
        go_ret
        exact ⟨by rw [HO.out, D3.out]; rfl, hb⟩
    · have hq : ((n : Int) == 1) = false := by simp; omega
      have D3 : Hid ((decide (1 ≤ n) && decide (n ≤ 1)) = false) := Lib.hid (by simp; omega)
      clear hn
      go_enter Tryd.func40, Tryd.ntmps40
      go_wp2_with fail
      go_ret
      exact ⟨by rw [HO.out, D3.out]; rfl, hb⟩
  by_cases hk8 : K = 8
  · subst hk8
    have HO : Hid (FO = (decide (1 ≤ n) && decide (n ≤ 1) && (decide (0 < T.size) == true))) := Lib.hid HF.out
    clear HF
    by_cases hn : n = 1
    · subst hn
      by_cases h3 : 0 < T.size
      · have q := empty_not h3
        have D3 : Hid (decide (0 < T.size) = true) := Lib.hid (decide_eq_true h3)
        clear h3
        go_enter Tryd.func40, Tryd.ntmps40
        go_wp2_with fail
        go_ret
        exact ⟨by rw [HO.out, D3.out]; rfl, hb⟩
      · have q := empty_is (show T.size = 0 by omega)
        have D3 : Hid (decide (0 < T.size) = false) := Lib.hid (decide_eq_false h3)
        clear h3
        go_enter Tryd.func40, Tryd.ntmps40
        go_wp2_with fail
        go_ret
        exact ⟨by rw [HO.out, D3.out]; rfl, hb⟩
    · have hq : ((n : Int) == 1) = false := by simp; omega
      have D3 : Hid ((decide (1 ≤ n) && decide (n ≤ 1)) = false) := Lib.hid (by simp; omega)
      clear hn
      go_enter Tryd.func40, Tryd.ntmps40
      go_wp2_with fail
      go_ret
      exact ⟨by rw [HO.out, D3.out]; rfl, hb⟩
  by_cases hk10 : K = 10
  · subst hk10
    have HO : Hid (FO = (decide (1 ≤ n) && decide (n ≤ 1) && (decide (0 < T.size) == true))) := Lib.hid HF.out
    clear HF
    by_cases hn : n = 1
    · subst hn
      by_cases h3 : 0 < T.size
      · have q := empty_not h3
        have D3 : Hid (decide (0 < T.size) = true) := Lib.hid (decide_eq_true h3)
        clear h3
        go_enter Tryd.func40, Tryd.ntmps40
        go_wp2_with fail
        go_ret
        exact ⟨by rw [HO.out, D3.out]; rfl, hb⟩
      · have q := empty_is (show T.size = 0 by omega)
        have D3 : Hid (decide (0 < T.size) = false) := Lib.hid (decide_eq_false h3)
        clear h3
        go_enter Tryd.func40, Tryd.ntmps40
        go_wp2_with fail
        go_ret
        exact ⟨by rw [HO.out, D3.out]; rfl, hb⟩
    · have hq : ((n : Int) == 1) = false := by simp; omega
      have D3 : Hid ((decide (1 ≤ n) && decide (n ≤ 1)) = false) := Lib.hid (by simp; omega)
      clear hn
      go_enter Tryd.func40, Tryd.ntmps40
      go_wp2_with fail
      go_ret
      exact ⟨by rw [HO.out, D3.out]; rfl, hb⟩
  by_cases hk6 : K = 6
  · subst hk6
    have HO : Hid (FO = (decide (2 ≤ n) && decide (n ≤ 2) && (decide (0 < T.size) == false))) := Lib.hid HF.out
    clear HF
    by_cases hn : n = 2
    · subst hn
      by_cases h3 : 0 < T.size
      · have q := empty_not h3
        have D3 : Hid (decide (0 < T.size) = true) := Lib.hid (decide_eq_true h3)
        clear h3
        go_enter Tryd.func40, Tryd.ntmps40
        go_wp2_with fail
        go_ret
        exact ⟨by rw [HO.out, D3.out]; rfl, hb⟩
      · have q := empty_is (show T.size = 0 by omega)
        have D3 : Hid (decide (0 < T.size) = false) := Lib.hid (decide_eq_false h3)
        clear h3
        go_enter Tryd.func40, Tryd.ntmps40
        go_wp2_with fail
        go_ret
        exact ⟨by rw [HO.out, D3.out]; rfl, hb⟩
    · have hq : ((n : Int) == 2) = false := by simp; omega
      have D3 : Hid ((decide (2 ≤ n) && decide (n ≤ 2)) = false) := Lib.hid (by simp; omega)
      clear hn
      go_enter Tryd.func40, Tryd.ntmps40
      go_wp2_with fail
      go_ret
      exact ⟨by rw [HO.out, D3.out]; rfl, hb⟩
  by_cases hk12 : K = 12
  · subst hk12
    have HO : Hid (FO = (decide (2 ≤ n) && decide (n ≤ 2) && (decide (0 < T.size) == false))) := Lib.hid HF.out
    clear HF
    by_cases hn : n = 2
    · subst hn
      by_cases h3 : 0 < T.size
      · have q := empty_not h3
        have D3 : Hid (decide (0 < T.size) = true) := Lib.hid (decide_eq_true h3)
        clear h3
        go_enter Tryd.func40, Tryd.ntmps40
        go_wp2_with fail
        go_ret
        exact ⟨by rw [HO.out, D3.out]; rfl, hb⟩
      · have q := empty_is (show T.size = 0 by omega)
        have D3 : Hid (decide (0 < T.size) = false) := Lib.hid (decide_eq_false h3)
        clear h3
        go_enter Tryd.func40, Tryd.ntmps40
        go_wp2_with fail
        go_ret
        exact ⟨by rw [HO.out, D3.out]; rfl, hb⟩
    · have hq : ((n : Int) == 2) = false := by simp; omega
      have D3 : Hid ((decide (2 ≤ n) && decide (n ≤ 2)) = false) := Lib.hid (by simp; omega)
      clear hn
      go_enter Tryd.func40, Tryd.ntmps40
      go_wp2_with fail
      go_ret
      exact ⟨by rw [HO.out, D3.out]; rfl, hb⟩
  by_cases hk7 : K = 7
  · subst hk7
    have HO : Hid (FO = (decide (3 ≤ n) && decide (n ≤ 3) && (decide (0 < T.size) == false))) := Lib.hid HF.out
    clear HF
    by_cases hn : n = 3
    · subst hn
      by_cases h3 : 0 < T.size
      · have q := empty_not h3
        have D3 : Hid (decide (0 < T.size) = true) := Lib.hid (decide_eq_true h3)
        clear h3
        go_enter Tryd.func40, Tryd.ntmps40
        go_wp2_with fail
        go_ret
        exact ⟨by rw [HO.out, D3.out]; rfl, hb⟩
      · have q := empty_is (show T.size = 0 by omega)
        have D3 : Hid (decide (0 < T.size) = false) := Lib.hid (decide_eq_false h3)
        clear h3
        go_enter Tryd.func40, Tryd.ntmps40
        go_wp2_with fail
        go_ret
        exact ⟨by rw [HO.out, D3.out]; rfl, hb⟩
    · have hq : ((n : Int) == 3) = false := by simp; omega
      have D3 : Hid ((decide (3 ≤ n) && decide (n ≤ 3)) = false) := Lib.hid (by simp; omega)
      clear hn
      go_enter Tryd.func40, Tryd.ntmps40
      go_wp2_with fail
      go_ret
      exact ⟨by rw [HO.out, D3.out]; rfl, hb⟩
  by_cases hk11 : K = 11
  · subst hk11
    have HO : Hid (FO = (decide (1 ≤ n) && decide (n ≤ 1048576) && (decide (0 < T.size) == false))) := Lib.hid HF.out
    clear HF
    by_cases hn : 1 ≤ n
    · have D4 : Hid ((decide (1 ≤ n) && decide (n ≤ 1048576)) = true) := Lib.hid (by simp; omega)
      by_cases h3 : 0 < T.size
      · have q := empty_not h3
        have D3 : Hid (decide (0 < T.size) = true) := Lib.hid (decide_eq_true h3)
        clear h3
        go_enter Tryd.func40, Tryd.ntmps40
        go_wp2_with fail
        go_ret
        exact ⟨by rw [HO.out, D4.out, D3.out]; rfl, hb⟩
      · have q := empty_is (show T.size = 0 by omega)
        have D3 : Hid (decide (0 < T.size) = false) := Lib.hid (decide_eq_false h3)
        clear h3
        go_enter Tryd.func40, Tryd.ntmps40
        go_wp2_with fail
        go_ret
        exact ⟨by rw [HO.out, D4.out, D3.out]; rfl, hb⟩
    · have hq : decide ((1 : Int) ≤ (n : Int)) = false := by simp; omega
      have D3 : Hid ((decide (1 ≤ n) && decide (n ≤ 1048576)) = false) := Lib.hid (by simp; omega)
      have hn0 : n = 0 := by omega
      subst hn0
      clear hn
      go_enter Tryd.func40, Tryd.ntmps40
      go_wp2_with fail
      go_ret
      exact ⟨by rw [HO.out]; rfl, hb⟩
  have HO : Hid (FO = false) := Lib.hid (by have h := HF.out; simpa [formAt, hk1, hk2, hk3, hk4, hk9, hk14, hk13, hk5, hk8, hk10, hk6, hk12, hk7, hk11] using h)
  clear HF
  have e1 : (K == 1) = false := by simpa using hk1
  have e2 : (K == 2) = false := by simpa using hk2
  have e3 : (K == 3) = false := by simpa using hk3
  have e4 : (K == 4) = false := by simpa using hk4
  have e9 : (K == 9) = false := by simpa using hk9
  have e14 : (K == 14) = false := by simpa using hk14
  have e13 : (K == 13) = false := by simpa using hk13
  have e5 : (K == 5) = false := by simpa using hk5
  have e8 : (K == 8) = false := by simpa using hk8
  have e10 : (K == 10) = false := by simpa using hk10
  have e6 : (K == 6) = false := by simpa using hk6
  have e12 : (K == 12) = false := by simpa using hk12
  have e7 : (K == 7) = false := by simpa using hk7
  have e11 : (K == 11) = false := by simpa using hk11
  clear hk1 hk2 hk3 hk4 hk9 hk14 hk13 hk5 hk8 hk10 hk6 hk12 hk7 hk11
  go_enter Tryd.func40, Tryd.ntmps40
  go_wp2_with fail
  go_ret
  exact ⟨by rw [HO.out]; rfl, hb⟩
end Go.Proofs.YtbcgdkhkljeomaaDoor
