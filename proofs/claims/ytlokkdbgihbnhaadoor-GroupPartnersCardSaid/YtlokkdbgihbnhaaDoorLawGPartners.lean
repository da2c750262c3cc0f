/-
  The law GroupPartners: true.
-/
import Derived.Test.YtlokkdbgihbnhaaDoorProg
import Derived.Test.YtlokkdbgihbnhaaDoorReg
import Derived.WalkKit
import Derived.WalkSpells
import Derived.WalkLawsBesides
import Derived.Lib.Hide
import Derived.Lib.MinMax
import Derived.Deep.QuietTactic
import Derived.BigQuiet
import Derived.OwnWalk
import Derived.Deep.AppendLies
import Derived.KernelRfl
import Derived.Laws.Rows
import Derived.Test.YtlokkdbgihbnhaaDoorRegG
import Derived.Test.YtlokkdbgihbnhaaDoorGrpSh
import Derived.Test.YtlokkdbgihbnhaaDoorLawGDeeper
set_option linter.unusedSimpArgs false
set_option linter.unusedVariables false
namespace Go.Proofs.YtlokkdbgihbnhaaDoor
open Go Go.RowKit

theorem mild_seg {l : List Tok} (h : mildT l) (a b : Nat) : mildT (seg l a b) := by
  refine ⟨by have := h.1; simp only [seg, List.length_take, List.length_drop]; omega, fun k x hx => h.2 _ x (seg_get hx).1⟩

/-- What a place with a partner has. -/
theorem partner_facts {l : List Tok} (h : codeOf l = 0) {i : Nat} (hi : i < l.length) (hp : (brsOf l).pr i ≠ -1) :
    ∃ j mn mx : Nat, (brsOf l).pr i = j ∧ j < l.length ∧ j ≠ i ∧ (brsOf l).pr j = i ∧ min (i : Int) (j : Int) = mn ∧ max (i : Int) (j : Int) = mx ∧ mn < mx ∧ mx < l.length ∧ insideRes l mn = (seg l (mn + 1) mx, 0) ∧ codeOf (seg l (mn + 1) mx) = 0 := by
  obtain ⟨j, e1, e2, e3, e4, _, _, e7⟩ := partners_law h hi hp
  rcases Nat.lt_or_gt_of_ne e3 with hj | hj
  · rw [Nat.min_eq_right (by omega), Nat.max_eq_left (by omega)] at e7
    exact ⟨j, j, i, e1, e2, e3, e4, by omega, by omega, hj, hi, insideRes_yes h e2 e4 hj, e7⟩
  · rw [Nat.min_eq_left (by omega), Nat.max_eq_right (by omega)] at e7
    exact ⟨j, i, j, e1, e2, e3, e4, by omega, by omega, hj, e2, insideRes_yes h hi e1 hj, e7⟩

set_option maxRecDepth 100000 in
set_option maxHeartbeats 8000000 in
theorem groupPartners_any (A : Option Addr) (c : Nat) (l0 : List Tok) (w : World) (hl0 : l0.length ≤ maxLen) (hs0 : ∀ (k : Nat) (x : Tok), l0[k]? = some x → x.text.size ≤ maxLen ∧ x.glyph.size ≤ maxLen) (hh0 : HoldsT w A l0) (hg0 : Listed w) :
    Calls Tryd.prog 8 #[.slice A l0.length c] w fun e w' => e = .returned (.bool true) ∧ Below w.heap.size w w' := by
  have HSh := Lib.hid (shown_any w hg0)
  have HF := Lib.hid (fun u hu => few_any A c l0 u hl0 hs0 hu)
  go_enter Tryd.func8, Tryd.ntmps8
  go_wp2_with fail
  refine HSh.out.mono ?_
  rintro e w1 ⟨rfl, hb1⟩
  have hh1 := hh0.below hb1
  have hg1 := hg0.below hb1
  clear HSh
  go_wp2_with fail
  refine (HF.out _ hh1).mono ?_
  rintro e w2 ⟨B, d, rfl, hT2, hd, hb2⟩
  have hm := mild_few l0
  have hb12 := hb1.trans (hb2.mono hb1.size)
  have hg2 := hg1.below hb2
  generalize few l0 = l at *
  clear HF hb1 hb2 hh1 hg1 hs0
  have H1 := Lib.hid (gmatch_any B d l w2 hm hT2 hg2)
  go_wp2_with fail
  refine H1.out.mono ?_
  rintro e w3 ⟨B3, d3, rfl, hm3, hb3⟩
  have hT3 := Lib.hid (hT2.below hb3)
  have hg3 := Lib.hid (hg2.below hb3)
  have hb13 := Lib.hid (hb12.trans (hb3.mono hb12.size))
  have hm33 := Lib.hid hm3
  have hl1 := hm.1
  have HMd := Lib.hid hm
  clear H1 hb12 hb3 hT2 hg2 hm3 hm
  by_cases h0 : codeOf l = 0
  · have n1 := mp_len h0
    have HA := Lib.hid (fun k (h : k < l.length) => mp_get h0 h)
    have HP := Lib.hid (fun i (h : i < l.length) (hp : (brsOf l).pr i ≠ -1) => partner_facts h0 h hp)
    have HI := Lib.hid (fun (a : Int) u hu hgu => ginside_any B d l a u HMd.out hd hu hgu)
    rw [n1, h0]
    clear n1 h0
    go_wp2_with fail
    go_loopw [6] (fun i wr => ∃ k : Nat, k ≤ l.length ∧ i = .int .i64 k ∧ Below w3.heap.size w3 wr) (fun i _ => l.length - (intOf i).toNat)
    case atStart => exact ⟨0, by omega, rfl, Below.refl _ _⟩
    case round =>
      obtain ⟨k, hk, rfl, hlow⟩ := hrel
      by_cases hlt : k < l.length
      · have hmr := hm33.out.below hlow
        obtain ⟨b3, o3, rfl, c3⟩ := hmr k _ (HA.out k hlt)
        have Hlow := Lib.hid hlow
        by_cases hp : (brsOf l).pr k = -1
        · rw [hp] at c3
          clear hp hlow hmr
          go_wp2_with fail
          go_roundw
          case rel => exact ⟨k + 1, by omega, by go_num, Hlow.out⟩
          case measure => simp [intOf]; omega
        · obtain ⟨j, mn, mx, e1, e2, e3, e4, e5, e6, e7, e8, e9, e10⟩ := HP.out k hlt hp
          obtain ⟨b5, o5, e11, c5⟩ := hmr j _ (HA.out j e2)
          cases e11
          rw [e1] at c3
          rw [e4] at c5
          have HT := Lib.hid (hT3.out.below hlow)
          have HG := Lib.hid (hg3.out.below hlow)
          have HI1 := Lib.hid (HI.out (mn : Int) wr HT.out HG.out)
          rw [e9] at HI1
          have hsl := seg_len (l := l) (a := mn + 1) (b := mx) (by omega)
          have H10 := Lib.hid e10
          have Hsl := Lib.hid hsl
          have q1 : ((j : Int) == -1) = false := beq_eq_false_iff_ne.2 (by omega)
          have q2 : decide ((j : Int) < 0) = false := by rw [decide_eq_false_iff_not]; omega
          have q3 : decide ((l.length : Int) ≤ (j : Int)) = false := by rw [decide_eq_false_iff_not]; omega
          have q3' : decide (l.length ≤ j) = false := by rw [decide_eq_false_iff_not]; omega
          have q4 : ((k : Int) != (k : Int)) = false := by simp
          have q5 : ((j : Int) == (k : Int)) = false := beq_eq_false_iff_ne.2 (by omega)
          have q6 : (j : Int) < (l.length : Int) := by omega
          have hszr := hlow.size
          have hsg := mild_seg HMd.out (mn + 1) mx
          generalize seg l (mn + 1) mx = sg at *
          have f1 : IntKind.i64.wrap ((mx : Int) - (mn : Int)) = (mx : Int) - (mn : Int) := by rw [IntWalk.i64_in] <;> omega
          have f2 : IntKind.i64.wrap ((mx : Int) - (mn : Int) - 1) = (sg.length : Int) := by rw [IntWalk.i64_in] <;> omega
          have f3 : (mx : Int) - (mn : Int) - 1 = (sg.length : Int) := by omega
          clear hp hlow hmr e1 e4 e9 e10 hsl
          go_wp2_with fail
          refine HI1.out.mono ?_
          rintro e w5 ⟨B6, d6, rfl, hS, hb5⟩
          have HM2 := Lib.hid (gmatch_any B6 d6 sg w5 hsg hS (HG.out.below hb5))
          rw [H10.out] at HM2
          have l3 := cell_lt c3
          have l5 := cell_lt c5
          simp only at l3 l5
          have c3' := (hb5.cell (p := ⟨b3, o3 + k, none⟩) l3).trans c3
          have c5' := (hb5.cell (p := ⟨b3, o3 + j, none⟩) l5).trans c5
          have Hlow5 := Lib.hid (Hlow.out.trans (hb5.mono hszr))
          clear HI1 hb5 HG c3 c5 HT
          go_wp2_with fail
          refine HM2.out.mono ?_
          rintro e w6 ⟨B7, d7, rfl, -, hb6⟩
          have c3 := (hb6.cell (p := ⟨b3, o3 + k, none⟩) (cell_lt c3')).trans c3'
          have Hlow6 := Lib.hid (Hlow5.out.trans (hb6.mono Hlow5.out.size))
          clear HM2 hb6 c3' c5' l3 l5
          go_wp2_with fail
          go_quiet (fail)
          go_wp2_with fail
          go_roundw
          case rel => exact ⟨k + 1, by omega, by go_num, below_drewN Hlow6.out _⟩
          case measure => simp [intOf]; omega
      · obtain rfl : k = l.length := by omega
        go_wp2_with fail
        go_ret
        exact ⟨rfl, hb13.out.trans (hlow.mono hb13.out.size)⟩
  · have n1 := matchOf_no h0
    have hw := codeOf_ways l
    have q1 : (codeOf l == 0) = false := by simpa using h0
    have q2 : (codeOf l != 0) = true := by rw [bne, q1]; rfl
    rw [n1]
    clear n1
    generalize codeOf l = cl at *
    rcases hw with h | rfl | rfl
    · exact absurd h h0
    · clear h0 q1 q2
      go_wp2_with fail
      go_ret
      exact ⟨rfl, hb13.out⟩
    · clear h0 q1 q2
      go_wp2_with fail
      go_ret
      exact ⟨rfl, hb13.out⟩
end Go.Proofs.YtlokkdbgihbnhaaDoor
