/-
  Whether nodes are a tree, by the program: whether all were found once.
-/
import Derived.Test.YtbcgdkhkljeomaaDoorProg
import Derived.Test.YtbcgdkhkljeomaaDoorReg
import Derived.WalkKit
import Derived.WalkSpells
import Derived.WalkLawsBesides
import Derived.Lib.Hide
import Derived.Lib.MinMax
import Derived.Deep.QuietTactic
import Derived.BigQuiet
import Derived.OwnWalk
import Derived.Deep.AppendLies
import Derived.KernelRfl
import Derived.Laws.OwnMore
import Derived.Test.YtbcgdkhkljeomaaDoorNdB
set_option linter.unusedSimpArgs false
set_option linter.unusedVariables false
namespace Go.Proofs.YtbcgdkhkljeomaaDoor
open Go.RowKit

/-- How often each of n places is among numbers. -/
def cnts (n : Nat) (L : List Int) : List Int := (List.range n).map fun (j : Nat) => ((L.count (j : Int) : Nat) : Int)
theorem cnts_length (n : Nat) (L : List Int) : (cnts n L).length = n := by simp [cnts]
theorem cnts_get {n : Nat} {L : List Int} {j : Nat} (h : j < n) : (cnts n L)[j]? = some ((L.count (j : Int) : Nat) : Int) := by simp [cnts, h]
theorem cnts_none (n : Nat) : cnts n [] = List.replicate n 0 := by
  apply List.ext_getElem?
  intro j
  by_cases h : j < n
  · rw [cnts_get h]; simp [h]
  · simp [cnts, h]
theorem cnts_put {n : Nat} {L : List Int} {k : Int} (h0 : 0 ≤ k) (h1 : k < n) : (cnts n L).set k.toNat (((L.count k : Nat) : Int) + 1) = cnts n (L ++ [k]) := by
  apply List.ext_getElem?
  intro j
  by_cases h : j < n
  · rw [cnts_get h, List.getElem?_set]
    by_cases hj : k.toNat = j
    · subst hj
      have e : ((k.toNat : Nat) : Int) = k := by omega
      rw [if_pos rfl, if_pos (by rw [cnts_length]; exact h), e]
      simp
    · rw [if_neg hj, cnts_get h]
      have : ¬ k = (j : Int) := by omega
      simp [this]
  · rw [List.getElem?_eq_none (by rw [List.length_set, cnts_length]; omega), List.getElem?_eq_none (by rw [cnts_length]; omega)]

theorem notOne_any (x : Int) (w : World) : Calls Tryd.prog 39 #[.int .i64 x] w fun e w' => e = .returned (.bool (x != 1)) ∧ w' = w := by
  go_enter Tryd.func39, Tryd.ntmps39
  by_cases h : x = 1
  · subst h
    go_wp2
    go_ret
    exact ⟨rfl, rfl⟩
  · have q : (x != 1) = true := by simp [h]
    go_wp2
    go_ret
    rw [q]; exact ⟨rfl, rfl⟩

/-- Which number is the first that isn't one? -/
def oddAt : List Int → Nat → Int
  | [], _ => -1
  | x :: l, k => if x = 1 then oddAt l (k + 1) else k
theorem oddAt_any : ∀ (l : List Int) (k : Nat), decide (0 ≤ oddAt l k) = l.any (· != 1)
  | [], k => by simp [oddAt]
  | x :: l, k => by
    unfold oddAt
    by_cases h : x = 1
    · rw [if_pos h, oddAt_any l (k + 1)]; simp [h]
    · rw [if_neg h]; simp [h]

theorem indexFunc_any (A : Option Addr) (l : List Int) (c : Nat) (w : World) (hl : l.length ≤ 1000000) (hh : HoldsI w A l) :
    Calls Tryd.prog 52 #[.slice A l.length c, .func (.func 39) #[] #[]] w fun e w' => e = .returned (.int .i64 (oddAt l 0)) ∧ w' = w := by
  have HO := Lib.hid (fun x W => notOne_any x W)
  have HH := Lib.hid hh
  clear hh
  generalize hn : oddAt l 0 = o
  go_enter Tryd.func52, Tryd.ntmps52
  go_wp2
  go_loopw [8] (fun v wr => ∃ k : Nat, v = .int .i64 k ∧ k ≤ l.length ∧ wr = w ∧ Hid (oddAt (l.drop k) k = o)) (fun v _ => l.length - (intOf v).toNat)
  case atStart => exact ⟨0, rfl, Nat.zero_le _, rfl, Lib.hid hn⟩
  case round =>
    obtain ⟨k, rfl, hk, rfl, HG⟩ := hrel
    by_cases hlt : k < l.length
    · have g := List.getElem?_eq_getElem hlt
      obtain ⟨b, off, rfl, c1⟩ := HH.out k _ g
      have HS : Hid ((if l[k] = 1 then oddAt (l.drop (k + 1)) (k + 1) else (k : Int)) = o) := Lib.hid (by rw [← HG.out, List.drop_eq_getElem_cons hlt]; rfl)
      generalize l[k] = x at *
      clear g HG
      go_wp2_with fail
      refine (HO.out _ _).mono ?_
      rintro e w1 ⟨rfl, rfl⟩
      by_cases h1 : x = 1
      · have q : (x != 1) = false := by simp [h1]
        have HS2 : Hid (oddAt (l.drop (k + 1)) (k + 1) = o) := Lib.hid (by rw [← HS.out, if_pos h1])
        rw [q]
        go_wp2
        go_roundw
        case rel => exact ⟨k + 1, by go_num, by omega, trivial, HS2⟩
        case measure => simp [intOf]; omega
      · have q : (x != 1) = true := by simp [h1]
        have HS2 : Hid ((k : Int) = o) := Lib.hid (by rw [← HS.out, if_neg h1])
        rw [q]
        go_wp2
        go_ret
        rw [← HS2.out]; exact ⟨rfl, rfl⟩
    · obtain rfl : k = l.length := by omega
      have HS2 : Hid (-1 = o) := Lib.hid (by rw [← HG.out, List.drop_of_length_le (Nat.le_refl _)]; rfl)
      go_wp2
      go_ret
      rw [← HS2.out]; exact ⟨rfl, rfl⟩

theorem containsFunc_any (A : Option Addr) (l : List Int) (c : Nat) (w : World) (hl : l.length ≤ 1000000) (hh : HoldsI w A l) :
    Calls Tryd.prog 38 #[.slice A l.length c, .func (.func 39) #[] #[]] w fun e w' => e = .returned (.bool (l.any (· != 1))) ∧ w' = w := by
  have H := Lib.hid (indexFunc_any A l c w hl hh)
  have HA := Lib.hid (oddAt_any l 0)
  generalize l.any (· != 1) = b at *
  generalize oddAt l 0 = o at *
  clear hh
  go_enter Tryd.func38, Tryd.ntmps38
  go_wp2_with fail
  refine H.out.mono ?_
  rintro e w1 ⟨rfl, rfl⟩
  by_cases ho : 0 ≤ o
  · have HB : Hid (b = true) := Lib.hid (by rw [← HA.out]; exact decide_eq_true ho)
    go_wp2
    go_ret
    rw [HB.out]; exact ⟨rfl, rfl⟩
  · have HB : Hid (b = false) := Lib.hid (by rw [← HA.out]; exact decide_eq_false ho)
    go_wp2
    go_ret
    have ho2 : decide (0 ≤ o) = false := decide_eq_false (by omega)
    rw [HB.out, ho2]; exact ⟨rfl, rfl⟩
end Go.Proofs.YtbcgdkhkljeomaaDoor
