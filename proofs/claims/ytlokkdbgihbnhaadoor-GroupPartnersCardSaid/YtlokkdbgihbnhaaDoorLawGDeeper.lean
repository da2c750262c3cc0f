/-
  The law GroupDeeper: true.
-/
import Derived.Test.YtlokkdbgihbnhaaDoorProg
import Derived.Test.YtlokkdbgihbnhaaDoorReg
import Derived.WalkKit
import Derived.WalkSpells
import Derived.WalkLawsBesides
import Derived.Lib.Hide
import Derived.Lib.MinMax
import Derived.Deep.QuietTactic
import Derived.BigQuiet
import Derived.OwnWalk
import Derived.Deep.AppendLies
import Derived.KernelRfl
import Derived.Laws.Rows
import Derived.Test.YtlokkdbgihbnhaaDoorRegG
import Derived.Test.YtlokkdbgihbnhaaDoorGrpSh
set_option linter.unusedSimpArgs false
set_option linter.unusedVariables false
namespace Go.Proofs.YtlokkdbgihbnhaaDoor
open Go Go.RowKit

theorem dp_get {l : List Tok} (h : codeOf l = 0) {n : Nat} (hn : n < l.length) : (deepOf l)[n]? = some ((brsOf l).dp n : Int) := by
  have h1 := (brsOf_len h).2
  rw [deepOf_yes h]
  unfold Brs.dp
  rw [List.getD_eq_getElem?_getD, List.getElem?_map, List.getElem?_eq_getElem (by omega)]
  rfl
theorem mp_get {l : List Tok} (h : codeOf l = 0) {n : Nat} (hn : n < l.length) : (matchOf l)[n]? = some ((brsOf l).pr n) := by
  rw [matchOf_yes h]
  exact pr_get h hn
theorem dp_len {l : List Tok} (h : codeOf l = 0) : (deepOf l).length = l.length := by rw [deepOf_yes h, List.length_map]; exact (brsOf_len h).2
theorem mp_len {l : List Tok} (h : codeOf l = 0) : (matchOf l).length = l.length := by rw [matchOf_yes h]; exact (brsOf_len h).1

set_option maxRecDepth 100000 in
set_option maxHeartbeats 8000000 in
theorem groupDeeper_any (A : Option Addr) (c : Nat) (l0 : List Tok) (w : World) (hl0 : l0.length ≤ maxLen) (hs0 : ∀ (k : Nat) (x : Tok), l0[k]? = some x → x.text.size ≤ maxLen ∧ x.glyph.size ≤ maxLen) (hh0 : HoldsT w A l0) (hg0 : Listed w) :
    Calls Tryd.prog 5 #[.slice A l0.length c] w fun e w' => e = .returned (.bool true) ∧ Below w.heap.size w w' := by
  have HSh := Lib.hid (shown_any w hg0)
  have HF := Lib.hid (fun u hu => few_any A c l0 u hl0 hs0 hu)
  go_enter Tryd.func5, Tryd.ntmps5
  go_wp2_with fail
  refine HSh.out.mono ?_
  rintro e w1 ⟨rfl, hb1⟩
  have hh1 := hh0.below hb1
  have hg1 := hg0.below hb1
  clear HSh
  go_wp2_with fail
  refine (HF.out _ hh1).mono ?_
  rintro e w2 ⟨B, d, rfl, hT2, hd, hb2⟩
  have hm := mild_few l0
  have hb12 := hb1.trans (hb2.mono hb1.size)
  have hg2 := hg1.below hb2
  generalize few l0 = l at *
  clear HF hb1 hb2 hh1 hg1 hs0
  have H1 := Lib.hid (gmatch_any B d l w2 hm hT2 hg2)
  go_wp2_with fail
  refine H1.out.mono ?_
  rintro e w3 ⟨B3, d3, rfl, hm3, hb3⟩
  have hT3 := hT2.below hb3
  have hg3 := hg2.below hb3
  have hb13 := hb12.trans (hb3.mono hb12.size)
  clear H1 hb12 hb3 hT2 hg2
  have H3 := Lib.hid (gdeep_any B d l w3 hm hT3 hg3)
  go_wp2_with fail
  refine H3.out.mono ?_
  rintro e w4 ⟨B4, d4, rfl, hm4, hb4⟩
  have hm34 := Lib.hid (hm3.below hb4)
  have hm44 := Lib.hid hm4
  have hb14 := Lib.hid (hb13.trans (hb4.mono hb13.size))
  have hl1 := hm.1
  clear H3 hb13 hb4 hT3 hg3 hm3 hm4
  by_cases h0 : codeOf l = 0
  · have hML := mp_len h0
    have hDL := dp_len h0
    have HM := Lib.hid (fun n (h : n < l.length) => mp_get h0 h)
    have HD := Lib.hid (fun n (h : n < l.length) => dp_get h0 h)
    have HP := Lib.hid (fun i (h : i < l.length) => partners_law h0 h)
    rw [hML, hDL, h0]
    clear h0 hML hDL
    go_wp2_with fail
    go_loopw [8, 9] (fun i u wr => ∃ k : Nat, k ≤ l.length ∧ i = .int .i64 k ∧ ∃ n, wr = w4.drewN n) (fun i _ _ => l.length - (intOf i).toNat)
    case atStart => exact ⟨0, by omega, rfl, 0, rfl⟩
    case round =>
      obtain ⟨k, hk, rfl, n, rfl⟩ := hrel
      by_cases hlt : k < l.length
      · obtain ⟨b3, o3, rfl, c3⟩ := hm34.out k _ (HM.out k hlt)
        obtain ⟨b4, o4, rfl, c4⟩ := hm44.out k _ (HD.out k hlt)
        have hpk := HP.out k hlt
        have z3 : decide (((brsOf l).dp k : Int) < 0) = false := by rw [decide_eq_false_iff_not]; omega
        have Inner : ∀ k2 : Nat, k < k2 → (k2 : Int) < (brsOf l).pr k → k2 < l.length ∧ (brsOf l).dp k < (brsOf l).dp k2 := fun k2 h1 h2 => by
          obtain ⟨j, e1, e2, _, _, _, e5, _⟩ := hpk (by omega)
          rw [e1] at h2
          have hj : k2 < j := by omega
          exact ⟨by omega, e5 k2 (by omega) (by omega)⟩
        have HInner := Lib.hid Inner
        have Two : ((brsOf l).pr k = -1) ∨ ∃ j : Nat, (brsOf l).pr k = j ∧ j < l.length ∧ (brsOf l).dp j = (brsOf l).dp k := by
          by_cases hp : (brsOf l).pr k = -1
          · exact Or.inl hp
          · obtain ⟨j, e1, e2, _, _, e4, _⟩ := hpk hp
            exact Or.inr ⟨j, e1, e2, e4⟩
        have Inn2 : ∀ k2 : Nat, k < k2 → (k2 : Int) < (brsOf l).pr k → ∃ v : Nat, w4.cell? ⟨b4, o4 + k2, none⟩ = some (.int .i64 v) ∧ (brsOf l).dp k < v := fun k2 h1 h2 => by
          obtain ⟨g1, g2⟩ := Inner k2 h1 h2
          obtain ⟨b5, o5, e5, c5⟩ := hm44.out k2 _ (HD.out k2 g1)
          cases e5
          exact ⟨_, c5, g2⟩
        have HInn2 := Lib.hid Inn2
        have Tw2 : Hid ((brsOf l).pr k = -1 ∨ ∃ j v : Nat, (brsOf l).pr k = j ∧ j < l.length ∧ v = (brsOf l).dp k ∧ w4.cell? ⟨b4, o4 + j, none⟩ = some (.int .i64 v)) := Lib.hid (by
          rcases Two with h | ⟨j, e1, e2, e3⟩
          · exact Or.inl h
          · obtain ⟨b5, o5, e5, c5⟩ := hm44.out j _ (HD.out j e2)
            cases e5
            exact Or.inr ⟨j, _, e1, e2, e3, c5⟩)
        clear hpk Inner Inn2 Two
        generalize (brsOf l).pr k = p at *
        generalize (brsOf l).dp k = dk at *
        have TT := Tw2.out
        rcases TT with rfl | ⟨j, v, rfl, hj, rfl, cj⟩
        · have z0 : decide ((l.length : Int) ≤ -1) = false := by rw [decide_eq_false_iff_not]; omega
          have z1 : decide ((0 : Int) ≤ -1) = false := by decide
          go_wp2_with fail
          go_quiet (fail)
          go_wp2_with fail
          go_loopw [9] (fun i2 wr2 => ∃ k2 n2 : Nat, k < k2 ∧ k2 ≤ l.length ∧ i2 = .int .i64 k2 ∧ wr2 = w4.drewN n2) (fun i2 _ => l.length - (intOf i2).toNat)
          case atStart => exact ⟨k + 1, _, by omega, by omega, by go_num, rfl⟩
          case round =>
            obtain ⟨k2, n2, hk2, hk3, rfl, rfl⟩ := hrel
            by_cases hin : (k2 : Int) < -1
            · obtain ⟨v2, cv2, hv2⟩ := HInn2.out k2 hk2 hin
              obtain ⟨g1, _⟩ := HInner.out k2 hk2 hin
              have z5 : decide ((v2 : Int) ≤ (dk : Int)) = false := by rw [decide_eq_false_iff_not]; omega
              have z6 : decide (v2 ≤ dk) = false := by rw [decide_eq_false_iff_not]; omega
              have z7 : (k2 : Int) < (l.length : Int) := by omega
              go_wp2_with fail
              go_quiet (fail)
              go_wp2_with fail
              go_roundw
              case rel => exact ⟨k2 + 1, _, by omega, by omega, by go_num, rfl⟩
              case measure => simp [intOf]; omega
            · go_wp2_with fail
              go_roundw
              case rel => exact ⟨k + 1, by omega, by go_num, _, rfl⟩
              case measure => simp [intOf]; omega
        · have z0 : decide ((l.length : Int) ≤ (j : Int)) = false := by rw [decide_eq_false_iff_not]; omega
          have z1 : decide ((0 : Int) ≤ (j : Int)) = true := by rw [decide_eq_true_eq]; omega
          have z2 : decide (l.length ≤ j) = false := by rw [decide_eq_false_iff_not]; omega
          have z4 : ((v : Int) != (v : Int)) = false := by simp
          have z8 : (j : Int) < (l.length : Int) := by omega
          go_wp2_with fail
          go_quiet (fail)
          go_wp2_with fail
          go_loopw [9] (fun i2 wr2 => ∃ k2 n2 : Nat, k < k2 ∧ k2 ≤ l.length ∧ i2 = .int .i64 k2 ∧ wr2 = w4.drewN n2) (fun i2 _ => l.length - (intOf i2).toNat)
          case atStart => exact ⟨k + 1, _, by omega, by omega, by go_num, rfl⟩
          case round =>
            obtain ⟨k2, n2, hk2, hk3, rfl, rfl⟩ := hrel
            by_cases hin : (k2 : Int) < (j : Int)
            · obtain ⟨v2, cv2, hv2⟩ := HInn2.out k2 hk2 hin
              obtain ⟨g1, _⟩ := HInner.out k2 hk2 hin
              have z5 : decide ((v2 : Int) ≤ (v : Int)) = false := by rw [decide_eq_false_iff_not]; omega
              have z6 : decide (v2 ≤ v) = false := by rw [decide_eq_false_iff_not]; omega
              have z7 : (k2 : Int) < (l.length : Int) := by omega
              go_wp2_with fail
              go_quiet (fail)
              go_wp2_with fail
              go_roundw
              case rel => exact ⟨k2 + 1, _, by omega, by omega, by go_num, rfl⟩
              case measure => simp [intOf]; omega
            · go_wp2_with fail
              go_roundw
              case rel => exact ⟨k + 1, by omega, by go_num, _, rfl⟩
              case measure => simp [intOf]; omega
      · obtain rfl : k = l.length := by omega
        go_wp2_with fail
        go_ret
        exact ⟨rfl, below_drewN hb14.out _⟩
  · have q1 : (codeOf l == 0) = false := by simpa using h0
    have q2 : (codeOf l != 0) = true := by rw [bne, q1]; rfl
    have q3 : (codeOf l == codeOf l) = true := by simp
    clear h0
    generalize codeOf l = cd at *
    go_wp2_with fail
    go_ret
    exact ⟨rfl, hb14.out⟩
end Go.Proofs.YtlokkdbgihbnhaaDoor
