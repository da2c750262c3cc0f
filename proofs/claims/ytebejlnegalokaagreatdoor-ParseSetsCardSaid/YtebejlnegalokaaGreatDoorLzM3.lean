/-
  XRfC, turned: what this seat needs of it.
-/
import Derived.Test.YtebejlnegalokaaGreatDoorProg
import Derived.Test.YtebejlnegalokaaGreatDoorReg
import Derived.WalkKit
import Derived.WalkSpells
import Derived.WalkLawsBesides
import Derived.Lib.Hide
import Derived.Lib.MinMax
import Derived.Deep.QuietTactic
import Derived.BigQuiet
import Derived.OwnWalk
import Derived.Deep.AppendLies
import Derived.KernelRfl
import Derived.Test.YtebejlnegalokaaGreatDoorReg
import Derived.WalkKit
import Derived.Lib.TrimU
import Derived.Lib.QuoteLoop
import Derived.Below
import Derived.Laws.OwnMore
import Derived.Deep.Draws
import Derived.Deep.AppendLies
import Derived.Shelf.Strings.BuilderF
import Derived.Lib.FrozenHead2
import Derived.Deep.OwnRows
import Derived.Maps.AppendAt
import Derived.Deep.RegionWith
import Derived.Test.YtebejlnegalokaaGreatDoorMap
import Derived.Test.YtebejlnegalokaaGreatDoorRegZ
import Derived.Laws.RangeAny
import Derived.Shelf.Abstract
import Derived.Maps.OwnSet
import Derived.OneCell
import Derived.Laws.Rows
import Derived.Tactics
import Derived.Tactics2
import Derived.Defers
import Derived.Laws.Pointers
import Derived.Laws.LoneSync
import Derived.RegionTactic
import Derived.RegionCalls
import Derived.ChangeAlike
import Derived.RangeFuncNested
import Derived.RangeFuncBound
import Derived.RangeFuncCalls
import Derived.RangeFuncLeaves
import Derived.RangeFuncBox
import Derived.OwnWalkIn
import Derived.TacticsInMore
import Derived.LoopNIn
import Derived.LoopIn
import Derived.Deep.RegionLaw
import Derived.Deep.Cut
import Derived.Test.YtebejlnegalokaaGreatDoorRegIn
import Derived.Test.YtebejlnegalokaaGreatDoorJoint2
import Derived.Test.YtebejlnegalokaaGreatDoorRegG
import Derived.Test.YtebejlnegalokaaGreatDoorMapI
import Derived.Lib.TrimByte
import Derived.Test.YtebejlnegalokaaGreatDoorLzM2
set_option linter.unusedSimpArgs false
set_option linter.unusedVariables false
namespace Go.Proofs.YtebejlnegalokaaGreatDoor.Lz.Rf
open Go.RowKit
theorem byteN_get (s : ByteArray) (k : Nat) (h : k < s.size) : byteN s k = s[k].toNat := by
  unfold byteN
  have e : s.get! k = s[k] := by
    unfold ByteArray.get!
    rw [ByteArray.getElem_eq_getElem_data]
    exact getElem!_pos s.data k h
  rw [e]
theorem goes_yes (s : ByteArray) (k : Nat) : goes s k = true ↔ 128 ≤ byteN s k ∧ byteN s k ≤ 191 := by
  unfold goes
  rw [Bool.and_eq_true, decide_eq_true_eq, decide_eq_true_eq]
theorem bits_bound (b : Nat) (h : b < 256) : 0 ≤ bits b ∧ bits b ≤ 255 := by
  unfold bits
  repeat' split
  all_goals omega
theorem val_bound (s : ByteArray) (k : Nat) (h1 : 1 ≤ k) (h4 : k ≤ 4) (hg : ∀ j, 1 ≤ j → j < k → goes s j = true) : 0 ≤ valN s k ∧ valN s k ≤ 200000000 := by
  have b := bits_bound (byteN s 0) (byteN_lt s 0)
  have g : ∀ j, 1 ≤ j → j < k → 128 ≤ byteN s j ∧ byteN s j ≤ 191 := fun j a c => (goes_yes s j).1 (hg j a c)
  rcases (show k = 1 ∨ k = 2 ∨ k = 3 ∨ k = 4 by omega) with rfl | rfl | rfl | rfl
  · simp only [valN]
    omega
  · have g1 := g 1 (by omega) (by omega)
    simp only [valN, Nat.zero_add, Nat.reduceAdd]
    omega
  · have g1 := g 1 (by omega) (by omega)
    have g2 := g 2 (by omega) (by omega)
    simp only [valN, Nat.zero_add, Nat.reduceAdd]
    omega
  · have g1 := g 1 (by omega) (by omega)
    have g2 := g 2 (by omega) (by omega)
    have g3 := g 3 (by omega) (by omega)
    simp only [valN, Nat.zero_add, Nat.reduceAdd]
    omega
set_option maxRecDepth 100000 in
set_option maxHeartbeats 8000000 in
theorem step_any (s : ByteArray) (w : World) (hs : s.size ≤ 1000000) (h0 : 0 < s.size) :
    Calls Tryz.prog 98 #[.string s] w fun r w' => r = .returned (.int .i64 (dStep s : Int)) ∧ w' = w := by
  have HD := Lib.hid (decode_is s h0)
  have e0 := byteN_get s 0 h0
  have hb0 := byteN_lt s 0
  have q4 : s.toList.isEmpty = false := empty_not (u := s) (fun e => by rw [e] at h0; simp at h0)
  have z0 : (0 : Int) < (s.size : Int) := by omega
  by_cases c2 : 194 ≤ byteN s 0 ∧ byteN s 0 < 224
  · have hl : lead (byteN s 0) = 2 := by unfold lead; rw [if_pos c2]
    have hm : leastOf (byteN s 0) = 128 := by unfold leastOf; rw [if_pos c2]
    have hv1 : valN s 1 = (s[0].toNat : Int) - 192 := by rw [← e0]; simp only [valN, bits, if_pos c2]
    rw [e0] at hb0
    have w0 : wrap64 (s[0].toNat : Int) = (s[0].toNat : Int) := by unfold wrap64; omega
    have w1 : wrap64 ((s[0].toNat : Int) - 192) = (s[0].toNat : Int) - 192 := by unfold wrap64; rw [e0] at c2; omega
    have d1 : (194 : Int) ≤ (s[0].toNat : Int) := by rw [e0] at c2; omega
    have d2 : (s[0].toNat : Int) < 224 := by rw [e0] at c2; omega
    have d3 : ¬ (224 : Int) ≤ (s[0].toNat : Int) := by rw [e0] at c2; omega
    have d4 : ¬ (240 : Int) ≤ (s[0].toNat : Int) := by rw [e0] at c2; omega
    have HV1 := Lib.hid hv1
    have HE0 := Lib.hid e0
    rw [hl] at HD
    have HB : Hid (badN s 2 = (decide (1 < 2) && (decide (valN s 2 < 128) || (decide (valN s 2 > 1114111) || (decide (55296 ≤ valN s 2) && decide (valN s 2 ≤ 57343)))))) := Lib.hid (by unfold badN; rw [hm])
    clear c2 hl hm hv1 e0 hb0
    by_cases hz : s.size < 2
    · have hd : dStep s = 1 := by rw [HD.out, if_pos (.inl hz)]
      have hz1 : (s.size : Int) < 2 := by omega
      rw [hd]
      clear hd hz HD HB HV1 HE0
      go_enter Tryz.func98, Tryz.ntmps98
      go_wp2_with fail
      go_ret
      exact ⟨rfl, rfl⟩
    · have hz1 : ¬ ((s.size : Int) < 2) := by omega
      go_enter Tryz.func98, Tryz.ntmps98
      go_wp2_with fail
      rw [← HV1.out]
      go_loop [5, 6] (fun v i => ∃ k : Nat, 1 ≤ k ∧ k ≤ 2 ∧ i = .int .i64 (k : Int) ∧ v = .int .i64 (valN s k) ∧ Hid (∀ j, 1 ≤ j → j < k → goes s j = true)) (fun _ i => 2 - (intOf i).toNat)
      case atStart => exact ⟨1, by omega, by omega, rfl, rfl, Lib.hid (fun j a b => by omega)⟩
      case round =>
        obtain ⟨k, hk1, hk2, rfl, rfl, HG⟩ := hrel
        by_cases hk : k < 2
        · have hks : k < s.size := by omega
          have ek := byteN_get s k hks
          have hbk := byteN_lt s k
          have p1 : (k : Int) < (s.size : Int) := by omega
          have p2 : (k : Int) < 2 := by omega
          have hgy := goes_yes s k
          have hgn := goes_no s k
          rw [ek] at hgy hgn hbk
          by_cases hg : 128 ≤ s[k].toNat ∧ s[k].toNat ≤ 191
          · have hb1 := val_bound s k hk1 (by omega) HG.out
            have HGn : Hid (∀ j, 1 ≤ j → j < k + 1 → goes s j = true) := Lib.hid (fun j a b => by
              by_cases e : j = k
              · subst e; exact hgy.2 hg
              · exact HG.out j a (by omega))
            have HVn : Hid (64 * valN s k + (s[k].toNat : Int) - 128 = valN s (k + 1)) := Lib.hid (by
              obtain ⟨m, rfl⟩ : ∃ m, k = m + 1 := ⟨k - 1, by omega⟩
              rw [← ek]; rfl)
            generalize valN s k = V at *
            have r1 : ¬ ((s[k].toNat : Int) < 128) := by omega
            have r2 : ¬ (191 < (s[k].toNat : Int)) := by omega
            have r3 : wrap64 (64 * V) = 64 * V := by unfold wrap64; omega
            have r4 : wrap64 (s[k].toNat : Int) = (s[k].toNat : Int) := by unfold wrap64; omega
            have r5 : wrap64 (64 * V + (s[k].toNat : Int)) = 64 * V + (s[k].toNat : Int) := by unfold wrap64; omega
            have r6 : wrap64 (64 * V + (s[k].toNat : Int) - 128) = 64 * V + (s[k].toNat : Int) - 128 := by unfold wrap64; omega
            clear hgy hgn hg HG ek
            go_wp2_with fail
            go_round
            case rel => exact ⟨k + 1, by omega, by omega, by go_num, by rw [HVn.out], HGn⟩
            case measure => simp [intOf]; omega
          · have hd : dStep s = 1 := by rw [HD.out, if_pos (.inr (.inl ⟨k, hk1, hk, hgn.2 hg⟩))]
            have HDD := Lib.hid hd
            clear hd HD HB HG hgy hgn
            by_cases r1 : (s[k].toNat : Int) < 128
            · clear hg ek hbk
              go_wp2_with fail
              go_ret
              exact ⟨by rw [HDD.out]; rfl, rfl⟩
            · have r2 : 191 < (s[k].toNat : Int) := by omega
              clear hg ek hbk
              go_wp2_with fail
              go_ret
              exact ⟨by rw [HDD.out]; rfl, rfl⟩
        · obtain rfl : k = 2 := by omega
          have hb1 := val_bound s 2 (by omega) (by omega) HG.out
          have hne : ¬ ∃ j, 1 ≤ j ∧ j < 2 ∧ goes s j = false := fun ⟨j, a, b, e⟩ => by rw [HG.out j a b] at e; cases e
          have hbad : badN s 2 = true → dStep s = 1 := fun h => by rw [HD.out, if_pos (.inr (.inr h))]
          have hgood : ¬ badN s 2 = true → dStep s = 2 := fun h => by rw [HD.out, if_neg (fun e => by rcases e with e | e | e; exact absurd e (by omega); exact hne e; exact h e)]
          rw [HB.out] at hbad hgood
          clear HB HD HG hne
          generalize valN s 2 = V at *
          by_cases b1 : V < 128
          · have hd := hbad (by simp [b1])
            have HDD := Lib.hid hd
            clear hbad hgood hd
            go_wp2_with fail
            go_ret
            exact ⟨by rw [HDD.out]; rfl, rfl⟩
          · by_cases b2 : 1114111 < V
            · have hd := hbad (by simp [b2])
              have HDD := Lib.hid hd
              clear hbad hgood hd
              go_wp2_with fail
              go_ret
              exact ⟨by rw [HDD.out]; rfl, rfl⟩
            · by_cases b3 : 55296 ≤ V
              · by_cases b4 : V ≤ 57343
                · have hd := hbad (by simp [b3, b4])
                  have HDD := Lib.hid hd
                  clear hbad hgood hd
                  go_wp2_with fail
                  go_ret
                  exact ⟨by rw [HDD.out]; rfl, rfl⟩
                · have hd := hgood (by simp [b1, b2, b3, b4]; try omega)
                  have HDD := Lib.hid hd
                  clear hbad hgood hd
                  go_wp2_with fail
                  go_ret
                  exact ⟨by rw [HDD.out]; rfl, rfl⟩
              · have hd := hgood (by simp [b1, b2, b3]; try omega)
                have HDD := Lib.hid hd
                clear hbad hgood hd
                go_wp2_with fail
                go_ret
                exact ⟨by rw [HDD.out]; rfl, rfl⟩
  · by_cases c3 : 224 ≤ byteN s 0 ∧ byteN s 0 < 240
    · have hl : lead (byteN s 0) = 3 := by unfold lead; rw [if_neg c2, if_pos c3]
      have hm : leastOf (byteN s 0) = 2048 := by unfold leastOf; rw [if_neg c2, if_pos c3]
      have hv1 : valN s 1 = (s[0].toNat : Int) - 224 := by rw [← e0]; simp only [valN, bits, if_neg c2, if_pos c3]
      rw [e0] at hb0
      have w0 : wrap64 (s[0].toNat : Int) = (s[0].toNat : Int) := by unfold wrap64; omega
      have w1 : wrap64 ((s[0].toNat : Int) - 224) = (s[0].toNat : Int) - 224 := by unfold wrap64; rw [e0] at c3; omega
      have d1 : (194 : Int) ≤ (s[0].toNat : Int) := by rw [e0] at c3; omega
      have d2 : ¬ ((s[0].toNat : Int) < 224) := by rw [e0] at c3; omega
      have d3 : (224 : Int) ≤ (s[0].toNat : Int) := by rw [e0] at c3; omega
      have d4 : (s[0].toNat : Int) < 240 := by rw [e0] at c3; omega
      have d5 : ¬ (240 : Int) ≤ (s[0].toNat : Int) := by rw [e0] at c3; omega
      have HV1 := Lib.hid hv1
      have HE0 := Lib.hid e0
      rw [hl] at HD
      have HB : Hid (badN s 3 = (decide (1 < 3) && (decide (valN s 3 < 2048) || (decide (valN s 3 > 1114111) || (decide (55296 ≤ valN s 3) && decide (valN s 3 ≤ 57343)))))) := Lib.hid (by unfold badN; rw [hm])
      clear c2 c3 hl hm hv1 e0 hb0
      by_cases hz : s.size < 3
      · have hd : dStep s = 1 := by rw [HD.out, if_pos (.inl hz)]
        have hz1 : (s.size : Int) < 3 := by omega
        rw [hd]
        clear hd hz HD HB HV1 HE0
        go_enter Tryz.func98, Tryz.ntmps98
        go_wp2_with fail
        go_ret
        exact ⟨rfl, rfl⟩
      · have hz1 : ¬ ((s.size : Int) < 3) := by omega
        go_enter Tryz.func98, Tryz.ntmps98
        go_wp2_with fail
        rw [← HV1.out]
        go_loop [5, 6] (fun v i => ∃ k : Nat, 1 ≤ k ∧ k ≤ 3 ∧ i = .int .i64 (k : Int) ∧ v = .int .i64 (valN s k) ∧ Hid (∀ j, 1 ≤ j → j < k → goes s j = true)) (fun _ i => 3 - (intOf i).toNat)
        case atStart => exact ⟨1, by omega, by omega, rfl, rfl, Lib.hid (fun j a b => by omega)⟩
        case round =>
          obtain ⟨k, hk1, hk2, rfl, rfl, HG⟩ := hrel
          by_cases hk : k < 3
          · have hks : k < s.size := by omega
            have ek := byteN_get s k hks
            have hbk := byteN_lt s k
            have p1 : (k : Int) < (s.size : Int) := by omega
            have p2 : (k : Int) < 3 := by omega
            have hgy := goes_yes s k
            have hgn := goes_no s k
            rw [ek] at hgy hgn hbk
            by_cases hg : 128 ≤ s[k].toNat ∧ s[k].toNat ≤ 191
            · have hb1 := val_bound s k hk1 (by omega) HG.out
              have HGn : Hid (∀ j, 1 ≤ j → j < k + 1 → goes s j = true) := Lib.hid (fun j a b => by
                by_cases e : j = k
                · subst e; exact hgy.2 hg
                · exact HG.out j a (by omega))
              have HVn : Hid (64 * valN s k + (s[k].toNat : Int) - 128 = valN s (k + 1)) := Lib.hid (by
                obtain ⟨m, rfl⟩ : ∃ m, k = m + 1 := ⟨k - 1, by omega⟩
                rw [← ek]; rfl)
              generalize valN s k = V at *
              have r1 : ¬ ((s[k].toNat : Int) < 128) := by omega
              have r2 : ¬ (191 < (s[k].toNat : Int)) := by omega
              have r3 : wrap64 (64 * V) = 64 * V := by unfold wrap64; omega
              have r4 : wrap64 (s[k].toNat : Int) = (s[k].toNat : Int) := by unfold wrap64; omega
              have r5 : wrap64 (64 * V + (s[k].toNat : Int)) = 64 * V + (s[k].toNat : Int) := by unfold wrap64; omega
              have r6 : wrap64 (64 * V + (s[k].toNat : Int) - 128) = 64 * V + (s[k].toNat : Int) - 128 := by unfold wrap64; omega
              clear hgy hgn hg HG ek
              go_wp2_with fail
              go_round
              case rel => exact ⟨k + 1, by omega, by omega, by go_num, by rw [HVn.out], HGn⟩
              case measure => simp [intOf]; omega
            · have hd : dStep s = 1 := by rw [HD.out, if_pos (.inr (.inl ⟨k, hk1, hk, hgn.2 hg⟩))]
              have HDD := Lib.hid hd
              clear hd HD HB HG hgy hgn
              by_cases r1 : (s[k].toNat : Int) < 128
              · clear hg ek hbk
                go_wp2_with fail
                go_ret
                exact ⟨by rw [HDD.out]; rfl, rfl⟩
              · have r2 : 191 < (s[k].toNat : Int) := by omega
                clear hg ek hbk
                go_wp2_with fail
                go_ret
                exact ⟨by rw [HDD.out]; rfl, rfl⟩
          · obtain rfl : k = 3 := by omega
            have hb1 := val_bound s 3 (by omega) (by omega) HG.out
            have hne : ¬ ∃ j, 1 ≤ j ∧ j < 3 ∧ goes s j = false := fun ⟨j, a, b, e⟩ => by rw [HG.out j a b] at e; cases e
            have hbad : badN s 3 = true → dStep s = 1 := fun h => by rw [HD.out, if_pos (.inr (.inr h))]
            have hgood : ¬ badN s 3 = true → dStep s = 3 := fun h => by rw [HD.out, if_neg (fun e => by rcases e with e | e | e; exact absurd e (by omega); exact hne e; exact h e)]
            rw [HB.out] at hbad hgood
            clear HB HD HG hne
            generalize valN s 3 = V at *
            by_cases b1 : V < 2048
            · have hd := hbad (by simp [b1])
              have HDD := Lib.hid hd
              clear hbad hgood hd
              go_wp2_with fail
              go_ret
              exact ⟨by rw [HDD.out]; rfl, rfl⟩
            · by_cases b2 : 1114111 < V
              · have hd := hbad (by simp [b2])
                have HDD := Lib.hid hd
                clear hbad hgood hd
                go_wp2_with fail
                go_ret
                exact ⟨by rw [HDD.out]; rfl, rfl⟩
              · by_cases b3 : 55296 ≤ V
                · by_cases b4 : V ≤ 57343
                  · have hd := hbad (by simp [b3, b4])
                    have HDD := Lib.hid hd
                    clear hbad hgood hd
                    go_wp2_with fail
                    go_ret
                    exact ⟨by rw [HDD.out]; rfl, rfl⟩
                  · have hd := hgood (by simp [b1, b2, b3, b4]; try omega)
                    have HDD := Lib.hid hd
                    clear hbad hgood hd
                    go_wp2_with fail
                    go_ret
                    exact ⟨by rw [HDD.out]; rfl, rfl⟩
                · have hd := hgood (by simp [b1, b2, b3]; try omega)
                  have HDD := Lib.hid hd
                  clear hbad hgood hd
                  go_wp2_with fail
                  go_ret
                  exact ⟨by rw [HDD.out]; rfl, rfl⟩
    · by_cases c4 : 240 ≤ byteN s 0 ∧ byteN s 0 < 245
      · have hl : lead (byteN s 0) = 4 := by unfold lead; rw [if_neg c2, if_neg c3, if_pos c4]
        have hm : leastOf (byteN s 0) = 65536 := by unfold leastOf; rw [if_neg c2, if_neg c3, if_pos c4]
        have hv1 : valN s 1 = (s[0].toNat : Int) - 240 := by rw [← e0]; simp only [valN, bits, if_neg c2, if_neg c3, if_pos c4]
        rw [e0] at hb0
        have w0 : wrap64 (s[0].toNat : Int) = (s[0].toNat : Int) := by unfold wrap64; omega
        have w1 : wrap64 ((s[0].toNat : Int) - 240) = (s[0].toNat : Int) - 240 := by unfold wrap64; rw [e0] at c4; omega
        have d1 : (194 : Int) ≤ (s[0].toNat : Int) := by rw [e0] at c4; omega
        have d2 : ¬ ((s[0].toNat : Int) < 224) := by rw [e0] at c4; omega
        have d3 : (224 : Int) ≤ (s[0].toNat : Int) := by rw [e0] at c4; omega
        have d4 : ¬ ((s[0].toNat : Int) < 240) := by rw [e0] at c4; omega
        have d5 : (240 : Int) ≤ (s[0].toNat : Int) := by rw [e0] at c4; omega
        have d6 : (s[0].toNat : Int) < 245 := by rw [e0] at c4; omega
        have HV1 := Lib.hid hv1
        have HE0 := Lib.hid e0
        rw [hl] at HD
        have HB : Hid (badN s 4 = (decide (1 < 4) && (decide (valN s 4 < 65536) || (decide (valN s 4 > 1114111) || (decide (55296 ≤ valN s 4) && decide (valN s 4 ≤ 57343)))))) := Lib.hid (by unfold badN; rw [hm])
        clear c2 c3 c4 hl hm hv1 e0 hb0
        by_cases hz : s.size < 4
        · have hd : dStep s = 1 := by rw [HD.out, if_pos (.inl hz)]
          have hz1 : (s.size : Int) < 4 := by omega
          rw [hd]
          clear hd hz HD HB HV1 HE0
          go_enter Tryz.func98, Tryz.ntmps98
          go_wp2_with fail
          go_ret
          exact ⟨rfl, rfl⟩
        · have hz1 : ¬ ((s.size : Int) < 4) := by omega
          go_enter Tryz.func98, Tryz.ntmps98
          go_wp2_with fail
          rw [← HV1.out]
          go_loop [5, 6] (fun v i => ∃ k : Nat, 1 ≤ k ∧ k ≤ 4 ∧ i = .int .i64 (k : Int) ∧ v = .int .i64 (valN s k) ∧ Hid (∀ j, 1 ≤ j → j < k → goes s j = true)) (fun _ i => 4 - (intOf i).toNat)
          case atStart => exact ⟨1, by omega, by omega, rfl, rfl, Lib.hid (fun j a b => by omega)⟩
          case round =>
            obtain ⟨k, hk1, hk2, rfl, rfl, HG⟩ := hrel
            by_cases hk : k < 4
            · have hks : k < s.size := by omega
              have ek := byteN_get s k hks
              have hbk := byteN_lt s k
              have p1 : (k : Int) < (s.size : Int) := by omega
              have p2 : (k : Int) < 4 := by omega
              have hgy := goes_yes s k
              have hgn := goes_no s k
              rw [ek] at hgy hgn hbk
              by_cases hg : 128 ≤ s[k].toNat ∧ s[k].toNat ≤ 191
              · have hb1 := val_bound s k hk1 (by omega) HG.out
                have HGn : Hid (∀ j, 1 ≤ j → j < k + 1 → goes s j = true) := Lib.hid (fun j a b => by
                  by_cases e : j = k
                  · subst e; exact hgy.2 hg
                  · exact HG.out j a (by omega))
                have HVn : Hid (64 * valN s k + (s[k].toNat : Int) - 128 = valN s (k + 1)) := Lib.hid (by
                  obtain ⟨m, rfl⟩ : ∃ m, k = m + 1 := ⟨k - 1, by omega⟩
                  rw [← ek]; rfl)
                generalize valN s k = V at *
                have r1 : ¬ ((s[k].toNat : Int) < 128) := by omega
                have r2 : ¬ (191 < (s[k].toNat : Int)) := by omega
                have r3 : wrap64 (64 * V) = 64 * V := by unfold wrap64; omega
                have r4 : wrap64 (s[k].toNat : Int) = (s[k].toNat : Int) := by unfold wrap64; omega
                have r5 : wrap64 (64 * V + (s[k].toNat : Int)) = 64 * V + (s[k].toNat : Int) := by unfold wrap64; omega
                have r6 : wrap64 (64 * V + (s[k].toNat : Int) - 128) = 64 * V + (s[k].toNat : Int) - 128 := by unfold wrap64; omega
                clear hgy hgn hg HG ek
                go_wp2_with fail
                go_round
                case rel => exact ⟨k + 1, by omega, by omega, by go_num, by rw [HVn.out], HGn⟩
                case measure => simp [intOf]; omega
              · have hd : dStep s = 1 := by rw [HD.out, if_pos (.inr (.inl ⟨k, hk1, hk, hgn.2 hg⟩))]
                have HDD := Lib.hid hd
                clear hd HD HB HG hgy hgn
                by_cases r1 : (s[k].toNat : Int) < 128
                · clear hg ek hbk
                  go_wp2_with fail
                  go_ret
                  exact ⟨by rw [HDD.out]; rfl, rfl⟩
                · have r2 : 191 < (s[k].toNat : Int) := by omega
                  clear hg ek hbk
                  go_wp2_with fail
                  go_ret
                  exact ⟨by rw [HDD.out]; rfl, rfl⟩
            · obtain rfl : k = 4 := by omega
              have hb1 := val_bound s 4 (by omega) (by omega) HG.out
              have hne : ¬ ∃ j, 1 ≤ j ∧ j < 4 ∧ goes s j = false := fun ⟨j, a, b, e⟩ => by rw [HG.out j a b] at e; cases e
              have hbad : badN s 4 = true → dStep s = 1 := fun h => by rw [HD.out, if_pos (.inr (.inr h))]
              have hgood : ¬ badN s 4 = true → dStep s = 4 := fun h => by rw [HD.out, if_neg (fun e => by rcases e with e | e | e; exact absurd e (by omega); exact hne e; exact h e)]
              rw [HB.out] at hbad hgood
              clear HB HD HG hne
              generalize valN s 4 = V at *
              by_cases b1 : V < 65536
              · have hd := hbad (by simp [b1])
                have HDD := Lib.hid hd
                clear hbad hgood hd
                go_wp2_with fail
                go_ret
                exact ⟨by rw [HDD.out]; rfl, rfl⟩
              · by_cases b2 : 1114111 < V
                · have hd := hbad (by simp [b2])
                  have HDD := Lib.hid hd
                  clear hbad hgood hd
                  go_wp2_with fail
                  go_ret
                  exact ⟨by rw [HDD.out]; rfl, rfl⟩
                · by_cases b3 : 55296 ≤ V
                  · by_cases b4 : V ≤ 57343
                    · have hd := hbad (by simp [b3, b4])
                      have HDD := Lib.hid hd
                      clear hbad hgood hd
                      go_wp2_with fail
                      go_ret
                      exact ⟨by rw [HDD.out]; rfl, rfl⟩
                    · have hd := hgood (by simp [b1, b2, b3, b4]; try omega)
                      have HDD := Lib.hid hd
                      clear hbad hgood hd
                      go_wp2_with fail
                      go_ret
                      exact ⟨by rw [HDD.out]; rfl, rfl⟩
                  · have hd := hgood (by simp [b1, b2, b3]; try omega)
                    have HDD := Lib.hid hd
                    clear hbad hgood hd
                    go_wp2_with fail
                    go_ret
                    exact ⟨by rw [HDD.out]; rfl, rfl⟩
      · have hl : lead (byteN s 0) = 1 := by unfold lead; rw [if_neg c2, if_neg c3, if_neg c4]
        have hd : dStep s = 1 := by rw [HD.out, hl]; split <;> rfl
        rw [hd]
        have c1 : ¬ ((s.size : Int) < 1) := by omega
        have d : ((s[0].toNat : Int) < 194) ∨ (240 ≤ (s[0].toNat : Int) ∧ 245 ≤ (s[0].toNat : Int)) := by rw [← e0]; omega
        rw [e0] at c2 c3 c4 hb0
        clear hd hl HD e0
        have w0 : wrap64 (s[0].toNat : Int) = (s[0].toNat : Int) := by unfold wrap64; omega
        rcases d with d | ⟨d5, d6⟩
        · have d1 : ¬ (194 : Int) ≤ (s[0].toNat : Int) := by omega
          have d2 : ¬ (224 : Int) ≤ (s[0].toNat : Int) := by omega
          have d3 : ¬ (240 : Int) ≤ (s[0].toNat : Int) := by omega
          clear c2 c3 c4 d hb0
          go_enter Tryz.func98, Tryz.ntmps98
          go_wp2_with fail
          go_loop [6] (fun i => i = .int .i64 1) (fun _ => 0)
          case atStart => rfl
          case round =>
            subst hrel
            go_wp2_with fail
            go_ret
            exact ⟨rfl, rfl⟩
        · have d1 : (194 : Int) ≤ (s[0].toNat : Int) := by omega
          have d2 : (224 : Int) ≤ (s[0].toNat : Int) := by omega
          have d3 : ¬ ((s[0].toNat : Int) < 224) := by omega
          have d4 : ¬ ((s[0].toNat : Int) < 240) := by omega
          have d7 : ¬ ((s[0].toNat : Int) < 245) := by omega
          clear c2 c3 c4 hb0
          go_enter Tryz.func98, Tryz.ntmps98
          go_wp2_with fail
          go_loop [6] (fun i => i = .int .i64 1) (fun _ => 0)
          case atStart => rfl
          case round =>
            subst hrel
            go_wp2_with fail
            go_ret
            exact ⟨rfl, rfl⟩
end Go.Proofs.YtebejlnegalokaaGreatDoor.Lz.Rf
/-
  XRfD, turned: what this seat needs of it.
-/
namespace Go.Proofs.YtebejlnegalokaaGreatDoor.Lz.Rf
open Go.RowKit
theorem noughts_short {l : List UInt8} (h : l.length ≤ 1) : noughts l = l := by
  match l, h with
  | [], _ => rw [noughts.eq_def]
  | [c], _ => exact noughts_one c
theorem noughts_other {l : List UInt8} {c : UInt8} (h : l[0]? = some c) (hc : c ≠ 48) : noughts l = l := by
  match l, h with
  | d :: r, h =>
    obtain rfl : d = c := by simpa using h
    exact noughts_no hc r
theorem noughts_drop {l : List UInt8} (h : l[0]? = some 48) (h1 : 1 < l.length) : noughts l = noughts (l.drop 1) := by
  match l, h, h1 with
  | d :: e :: r, h, _ =>
    obtain rfl : d = 48 := by simpa using h
    exact noughts_48 e r
set_option maxRecDepth 100000 in
set_option maxHeartbeats 8000000 in
theorem number_any (s : ByteArray) (m : Nat) (w : World) (hs : s.size ≤ 1000000) (hm : m ≤ s.size) :
    Calls Tryz.prog 94 #[.string s, .int .i64 (m : Int)] w fun r w' => r = .returned (dNumber s m).val ∧ Below w.heap.size w w' := by
  have hk := dDigits_le s hm
  have HE : Hid (dNumber s m = if 18 < dDigits (s.extract m s.size) ∨ dDigits (s.extract m s.size) = 0 then ⟨10, s.extract 0 (m + dDigits (s.extract m s.size)), noText⟩ else
      ⟨3, s.extract 0 (m + dDigits (s.extract m s.size)), if 0 < m ∧ toB (noughts (s.extract m (m + dDigits (s.extract m s.size))).data.toList) ≠ ⟨#[48]⟩ then ⟨#[194, 175]⟩ ++ toB (noughts (s.extract m (m + dDigits (s.extract m s.size))).data.toList) else toB (noughts (s.extract m (m + dDigits (s.extract m s.size))).data.toList)⟩) := Lib.hid rfl
  have HD := Lib.hid (fun W => digits_any (s.extract m s.size) W (by rw [ByteArray.size_extract]; omega))
  have hr0 := heap_alloc_new w (.cells #[.int .i64 0, .string ⟨#[]⟩, .string ⟨#[]⟩] 37)
  have hb0 := below_new w (.cells #[.int .i64 0, .string ⟨#[]⟩, .string ⟨#[]⟩] 37)
  obtain ⟨W0, hW0⟩ : ∃ W0, w.alloc (.cells #[.int .i64 0, .string ⟨#[]⟩, .string ⟨#[]⟩] 37) = W0 := ⟨_, rfl⟩
  rw [hW0] at hr0 hb0
  have HB0 := Lib.hid hb0
  have HW0 := Lib.hid hW0
  have n1 : (m : Int) ≤ (s.size : Int) := by omega
  generalize dDigits (s.extract m s.size) = k at *
  have n2 : IntKind.i64.wrap ((m : Int) + (k : Int)) = ((m + k : Nat) : Int) := (IntWalk.i64_in _ (by omega)).trans (by omega)
  have n3 : ((m + k : Nat) : Int) ≤ (s.size : Int) := by omega
  have n4 : (m : Int) ≤ ((m + k : Nat) : Int) := by omega
  obtain ⟨e, he⟩ : ∃ e, m + k = e := ⟨_, rfl⟩
  rw [he] at HE n2 n3 n4
  clear hb0 hW0
  go_enter Tryz.func94, Tryz.ntmps94
  go_wp2_with fail
  refine (HD.out _).mono ?_
  rintro r w1 ⟨rfl, rfl⟩
  rw [HW0.out]
  clear HW0 HD
  have x0_hr0 : W0.cell? ⟨w.heap.size, 0, none⟩ = some (.int .i64 0) := by simp [World.cell?, hr0]
  have x1_hr0 : W0.cell? ⟨w.heap.size, 1, none⟩ = some (.string ⟨#[]⟩) := by simp [World.cell?, hr0]
  have x2_hr0 : W0.cell? ⟨w.heap.size, 2, none⟩ = some (.string ⟨#[]⟩) := by simp [World.cell?, hr0]
  have z_hr0 : ∀ j, W0.frozen? ⟨w.heap.size, j, none⟩ = false := fun j => frozen_of_row W0 _ j _ _ hr0
  by_cases ha : 18 < k
  · have q1 : (18 : Int) < (k : Int) := by omega
    go_wp2_with fail
    have hR9 := set3 (b1 := .int .i64 10) (b2 := .string (s.extract 0 e)) (b3 := .string ⟨#[]⟩) hr0
    have hB9 := ((HB0.out.setCell (p := ⟨w.heap.size, 0, none⟩) (Nat.le_refl _) (.int .i64 10)).setCell (p := ⟨w.heap.size, 1, none⟩) (Nat.le_refl _) (.string (s.extract 0 e))).setCell (p := ⟨w.heap.size, 2, none⟩) (Nat.le_refl _) (.string ⟨#[]⟩)
    generalize (((W0.setCell ⟨w.heap.size, 0, none⟩ (.int .i64 10)).setCell ⟨w.heap.size, 1, none⟩ (.string (s.extract 0 e))).setCell ⟨w.heap.size, 2, none⟩ (.string ⟨#[]⟩)) = W9 at *
    have y0 : W9.cell? ⟨w.heap.size, 0, none⟩ = some (.int .i64 10) := by simp [World.cell?, hR9]
    have y1 : W9.cell? ⟨w.heap.size, 1, none⟩ = some (.string (s.extract 0 e)) := by simp [World.cell?, hR9]
    have y2 : W9.cell? ⟨w.heap.size, 2, none⟩ = some (.string ⟨#[]⟩) := by simp [World.cell?, hR9]
    exact bodyPost_ret (v := .agg #[.int .i64 10, .string (s.extract 0 e), .string ⟨#[]⟩]) (by simp [results, Tryz.results94, go_sem, y0, y1, y2]) rfl ⟨by rw [HE.out, if_pos (.inl ha)]; rfl, hB9⟩
  · have q1 : ¬ (18 : Int) < (k : Int) := by omega
    by_cases hb : k = 0
    · have q2 : ((k : Int) == 0) = true := by rw [hb]; rfl
      have HK := Lib.hid hb
      clear hb he
      go_wp2_with fail
      have hR9 := set3 (b1 := .int .i64 10) (b2 := .string (s.extract 0 e)) (b3 := .string ⟨#[]⟩) hr0
      have hB9 := ((HB0.out.setCell (p := ⟨w.heap.size, 0, none⟩) (Nat.le_refl _) (.int .i64 10)).setCell (p := ⟨w.heap.size, 1, none⟩) (Nat.le_refl _) (.string (s.extract 0 e))).setCell (p := ⟨w.heap.size, 2, none⟩) (Nat.le_refl _) (.string ⟨#[]⟩)
      generalize (((W0.setCell ⟨w.heap.size, 0, none⟩ (.int .i64 10)).setCell ⟨w.heap.size, 1, none⟩ (.string (s.extract 0 e))).setCell ⟨w.heap.size, 2, none⟩ (.string ⟨#[]⟩)) = W9 at *
      have y0 : W9.cell? ⟨w.heap.size, 0, none⟩ = some (.int .i64 10) := by simp [World.cell?, hR9]
      have y1 : W9.cell? ⟨w.heap.size, 1, none⟩ = some (.string (s.extract 0 e)) := by simp [World.cell?, hR9]
      have y2 : W9.cell? ⟨w.heap.size, 2, none⟩ = some (.string ⟨#[]⟩) := by simp [World.cell?, hR9]
      exact bodyPost_ret (v := .agg #[.int .i64 10, .string (s.extract 0 e), .string ⟨#[]⟩]) (by simp [results, Tryz.results94, go_sem, y0, y1, y2]) rfl ⟨by rw [HE.out, if_pos (.inr HK.out)]; rfl, hB9⟩
    · have q2 : ((k : Int) == 0) = false := by rw [beq_eq_false_iff_ne]; omega
      have hE2 := HE.out
      rw [if_neg (by omega)] at hE2
      have HE2 := Lib.hid hE2
      have hDs : (s.extract m e).size = k := by rw [ByteArray.size_extract]; omega
      obtain ⟨D, hD⟩ : ∃ D, s.extract m e = D := ⟨_, rfl⟩
      rw [hD] at hDs HE2
      have HDD := Lib.hid hD
      have hk0 : 0 < k := by omega
      clear hE2 HE hD he hb
      go_wp2_with fail
      rw [HDD.out]
      go_loopw [6] (fun v wr => ∃ u : ByteArray, v = .string u ∧ 0 < u.size ∧ u.size ≤ k ∧ Hid (noughts u.data.toList = noughts D.data.toList) ∧ W0 = wr) (fun v _ => match v with | .string u => u.size | _ => 0)
      case atStart => exact ⟨D, rfl, by omega, by omega, Lib.hid rfl, rfl⟩
      case round =>
        obtain ⟨u, rfl, hu0, huk, HN, rfl⟩ := hrel
        have hget : u.data.toList[0]? = some u[0] := by rw [List.getElem?_eq_getElem (by rw [bytes_len]; exact hu0)]; rfl
        by_cases hc : 1 < u.size ∧ u[0] = 48
        · obtain ⟨hc1, hc2⟩ := hc
          have r1 : (1 : Int) < (u.size : Int) := by omega
          have r2 : ((u[0].toNat : Int) == 48) = true := by rw [hc2]; rfl
          have r3 : (1 : Int) ≤ (u.size : Int) := by omega
          have HNn : Hid (noughts (u.extract 1 u.size).data.toList = noughts D.data.toList) := Lib.hid (by
            rw [← HN.out, noughts_drop (l := u.data.toList) (by rw [hget, hc2]) (by rw [bytes_len]; exact hc1), bytes_ext, List.take_of_length_le (by rw [List.length_drop, bytes_len]; omega)])
          have hsz : (u.extract 1 u.size).size = u.size - 1 := by rw [ByteArray.size_extract]; omega
          clear hget hc2 HN
          go_wp2_with fail
          go_roundw
          case rel => exact ⟨u.extract 1 u.size, rfl, by omega, by omega, HNn, trivial⟩
          case measure => simp; omega
        · have hn : noughts u.data.toList = u.data.toList := by
            by_cases h1 : 1 < u.size
            · exact noughts_other hget (fun e => hc ⟨h1, e⟩)
            · exact noughts_short (by rw [bytes_len]; omega)
          have hDu : toB (noughts D.data.toList) = u := by rw [← HN.out, hn]; exact toB_of u
          rw [hDu] at HE2
          obtain ⟨Z, hZ⟩ : ∃ Z : ByteArray, Z = ⟨#[48]⟩ := ⟨_, rfl⟩
          have HZ := Lib.hid hZ
          have hfin : ∀ (c1 : (1 : Int) < (u.size : Int) → ((u[0].toNat : Int) == 48) = false), True := fun _ => trivial
          by_cases c1 : (1 : Int) < (u.size : Int)
          · have c2 : ((u[0].toNat : Int) == 48) = false := by
              rw [beq_eq_false_iff_ne]
              exact fun e => hc ⟨by omega, UInt8.toNat_inj.1 (by simpa using (show u[0].toNat = 48 by omega))⟩
            clear hc HN hget hn hDu hfin
            by_cases hm0 : 0 < m
            · have m1 : (0 : Int) < (m : Int) := by omega
              by_cases hu : u = ⟨#[48]⟩
              · have q3 : (u.toList == [48]) = true := by
                  rw [← toList_48]; exact bytes_beq_yes hu
                have HE3 : Hid (dNumber s m = ⟨3, s.extract 0 e, u⟩) := Lib.hid (by rw [HE2.out, if_neg (fun h => h.2 hu)])
                clear hu hm0
                go_wp2_with fail
                have hR9 := set3 (b1 := .int .i64 3) (b2 := .string (s.extract 0 e)) (b3 := .string u) hr0
                have hB9 := ((HB0.out.setCell (p := ⟨w.heap.size, 0, none⟩) (Nat.le_refl _) (.int .i64 3)).setCell (p := ⟨w.heap.size, 1, none⟩) (Nat.le_refl _) (.string (s.extract 0 e))).setCell (p := ⟨w.heap.size, 2, none⟩) (Nat.le_refl _) (.string u)
                generalize (((W0.setCell ⟨w.heap.size, 0, none⟩ (.int .i64 3)).setCell ⟨w.heap.size, 1, none⟩ (.string (s.extract 0 e))).setCell ⟨w.heap.size, 2, none⟩ (.string u)) = W9 at *
                have y0 : W9.cell? ⟨w.heap.size, 0, none⟩ = some (.int .i64 3) := by simp [World.cell?, hR9]
                have y1 : W9.cell? ⟨w.heap.size, 1, none⟩ = some (.string (s.extract 0 e)) := by simp [World.cell?, hR9]
                have y2 : W9.cell? ⟨w.heap.size, 2, none⟩ = some (.string u) := by simp [World.cell?, hR9]
                exact bodyPost_ret (v := .agg #[.int .i64 3, .string (s.extract 0 e), .string u]) (by simp [results, Tryz.results94, go_sem, y0, y1, y2]) rfl ⟨by rw [HE3.out]; rfl, hB9⟩
              · have q3 : (u.toList == [48]) = false := by
                  rw [← toList_48]; exact bytes_beq_no hu
                have HE3 : Hid (dNumber s m = ⟨3, s.extract 0 e, ⟨#[194, 175]⟩ ++ u⟩) := Lib.hid (by rw [HE2.out, if_pos ⟨hm0, hu⟩])
                have hbig : ¬ (9223372036854775807 < (⟨#[194, 175]⟩ : ByteArray).size + u.size) := by
                  have h2 : (⟨#[194, 175]⟩ : ByteArray).size = 2 := rfl
                  rw [h2]; omega
                have hbig2 : ¬ (9223372036854775807 < 2 + u.size) := by omega
                clear hu hm0
                go_wp2_with fail
                have hR9 := set3 (b1 := .int .i64 3) (b2 := .string (s.extract 0 e)) (b3 := .string (⟨#[194, 175]⟩ ++ u)) hr0
                have hB9 := ((HB0.out.setCell (p := ⟨w.heap.size, 0, none⟩) (Nat.le_refl _) (.int .i64 3)).setCell (p := ⟨w.heap.size, 1, none⟩) (Nat.le_refl _) (.string (s.extract 0 e))).setCell (p := ⟨w.heap.size, 2, none⟩) (Nat.le_refl _) (.string (⟨#[194, 175]⟩ ++ u))
                generalize (((W0.setCell ⟨w.heap.size, 0, none⟩ (.int .i64 3)).setCell ⟨w.heap.size, 1, none⟩ (.string (s.extract 0 e))).setCell ⟨w.heap.size, 2, none⟩ (.string (⟨#[194, 175]⟩ ++ u))) = W9 at *
                have y0 : W9.cell? ⟨w.heap.size, 0, none⟩ = some (.int .i64 3) := by simp [World.cell?, hR9]
                have y1 : W9.cell? ⟨w.heap.size, 1, none⟩ = some (.string (s.extract 0 e)) := by simp [World.cell?, hR9]
                have y2 : W9.cell? ⟨w.heap.size, 2, none⟩ = some (.string (⟨#[194, 175]⟩ ++ u)) := by simp [World.cell?, hR9]
                exact bodyPost_ret (v := .agg #[.int .i64 3, .string (s.extract 0 e), .string (⟨#[194, 175]⟩ ++ u)]) (by simp [results, Tryz.results94, go_sem, y0, y1, y2]) rfl ⟨by rw [HE3.out]; rfl, hB9⟩
            · have m1 : ¬ (0 : Int) < (m : Int) := by omega
              have HE3 : Hid (dNumber s m = ⟨3, s.extract 0 e, u⟩) := Lib.hid (by rw [HE2.out, if_neg (fun h => hm0 h.1)])
              clear hm0
              go_wp2_with fail
              have hR9 := set3 (b1 := .int .i64 3) (b2 := .string (s.extract 0 e)) (b3 := .string u) hr0
              have hB9 := ((HB0.out.setCell (p := ⟨w.heap.size, 0, none⟩) (Nat.le_refl _) (.int .i64 3)).setCell (p := ⟨w.heap.size, 1, none⟩) (Nat.le_refl _) (.string (s.extract 0 e))).setCell (p := ⟨w.heap.size, 2, none⟩) (Nat.le_refl _) (.string u)
              generalize (((W0.setCell ⟨w.heap.size, 0, none⟩ (.int .i64 3)).setCell ⟨w.heap.size, 1, none⟩ (.string (s.extract 0 e))).setCell ⟨w.heap.size, 2, none⟩ (.string u)) = W9 at *
              have y0 : W9.cell? ⟨w.heap.size, 0, none⟩ = some (.int .i64 3) := by simp [World.cell?, hR9]
              have y1 : W9.cell? ⟨w.heap.size, 1, none⟩ = some (.string (s.extract 0 e)) := by simp [World.cell?, hR9]
              have y2 : W9.cell? ⟨w.heap.size, 2, none⟩ = some (.string u) := by simp [World.cell?, hR9]
              exact bodyPost_ret (v := .agg #[.int .i64 3, .string (s.extract 0 e), .string u]) (by simp [results, Tryz.results94, go_sem, y0, y1, y2]) rfl ⟨by rw [HE3.out]; rfl, hB9⟩
          · clear hc HN hget hn hDu hfin
            by_cases hm0 : 0 < m
            · have m1 : (0 : Int) < (m : Int) := by omega
              by_cases hu : u = ⟨#[48]⟩
              · have q3 : (u.toList == [48]) = true := by
                  rw [← toList_48]; exact bytes_beq_yes hu
                have HE3 : Hid (dNumber s m = ⟨3, s.extract 0 e, u⟩) := Lib.hid (by rw [HE2.out, if_neg (fun h => h.2 hu)])
                clear hu hm0
                go_wp2_with fail
                have hR9 := set3 (b1 := .int .i64 3) (b2 := .string (s.extract 0 e)) (b3 := .string u) hr0
                have hB9 := ((HB0.out.setCell (p := ⟨w.heap.size, 0, none⟩) (Nat.le_refl _) (.int .i64 3)).setCell (p := ⟨w.heap.size, 1, none⟩) (Nat.le_refl _) (.string (s.extract 0 e))).setCell (p := ⟨w.heap.size, 2, none⟩) (Nat.le_refl _) (.string u)
                generalize (((W0.setCell ⟨w.heap.size, 0, none⟩ (.int .i64 3)).setCell ⟨w.heap.size, 1, none⟩ (.string (s.extract 0 e))).setCell ⟨w.heap.size, 2, none⟩ (.string u)) = W9 at *
                have y0 : W9.cell? ⟨w.heap.size, 0, none⟩ = some (.int .i64 3) := by simp [World.cell?, hR9]
                have y1 : W9.cell? ⟨w.heap.size, 1, none⟩ = some (.string (s.extract 0 e)) := by simp [World.cell?, hR9]
                have y2 : W9.cell? ⟨w.heap.size, 2, none⟩ = some (.string u) := by simp [World.cell?, hR9]
                exact bodyPost_ret (v := .agg #[.int .i64 3, .string (s.extract 0 e), .string u]) (by simp [results, Tryz.results94, go_sem, y0, y1, y2]) rfl ⟨by rw [HE3.out]; rfl, hB9⟩
              · have q3 : (u.toList == [48]) = false := by
                  rw [← toList_48]; exact bytes_beq_no hu
                have HE3 : Hid (dNumber s m = ⟨3, s.extract 0 e, ⟨#[194, 175]⟩ ++ u⟩) := Lib.hid (by rw [HE2.out, if_pos ⟨hm0, hu⟩])
                have hbig : ¬ (9223372036854775807 < (⟨#[194, 175]⟩ : ByteArray).size + u.size) := by
                  have h2 : (⟨#[194, 175]⟩ : ByteArray).size = 2 := rfl
                  rw [h2]; omega
                have hbig2 : ¬ (9223372036854775807 < 2 + u.size) := by omega
                clear hu hm0
                go_wp2_with fail
                have hR9 := set3 (b1 := .int .i64 3) (b2 := .string (s.extract 0 e)) (b3 := .string (⟨#[194, 175]⟩ ++ u)) hr0
                have hB9 := ((HB0.out.setCell (p := ⟨w.heap.size, 0, none⟩) (Nat.le_refl _) (.int .i64 3)).setCell (p := ⟨w.heap.size, 1, none⟩) (Nat.le_refl _) (.string (s.extract 0 e))).setCell (p := ⟨w.heap.size, 2, none⟩) (Nat.le_refl _) (.string (⟨#[194, 175]⟩ ++ u))
                generalize (((W0.setCell ⟨w.heap.size, 0, none⟩ (.int .i64 3)).setCell ⟨w.heap.size, 1, none⟩ (.string (s.extract 0 e))).setCell ⟨w.heap.size, 2, none⟩ (.string (⟨#[194, 175]⟩ ++ u))) = W9 at *
                have y0 : W9.cell? ⟨w.heap.size, 0, none⟩ = some (.int .i64 3) := by simp [World.cell?, hR9]
                have y1 : W9.cell? ⟨w.heap.size, 1, none⟩ = some (.string (s.extract 0 e)) := by simp [World.cell?, hR9]
                have y2 : W9.cell? ⟨w.heap.size, 2, none⟩ = some (.string (⟨#[194, 175]⟩ ++ u)) := by simp [World.cell?, hR9]
                exact bodyPost_ret (v := .agg #[.int .i64 3, .string (s.extract 0 e), .string (⟨#[194, 175]⟩ ++ u)]) (by simp [results, Tryz.results94, go_sem, y0, y1, y2]) rfl ⟨by rw [HE3.out]; rfl, hB9⟩
            · have m1 : ¬ (0 : Int) < (m : Int) := by omega
              have HE3 : Hid (dNumber s m = ⟨3, s.extract 0 e, u⟩) := Lib.hid (by rw [HE2.out, if_neg (fun h => hm0 h.1)])
              clear hm0
              go_wp2_with fail
              have hR9 := set3 (b1 := .int .i64 3) (b2 := .string (s.extract 0 e)) (b3 := .string u) hr0
              have hB9 := ((HB0.out.setCell (p := ⟨w.heap.size, 0, none⟩) (Nat.le_refl _) (.int .i64 3)).setCell (p := ⟨w.heap.size, 1, none⟩) (Nat.le_refl _) (.string (s.extract 0 e))).setCell (p := ⟨w.heap.size, 2, none⟩) (Nat.le_refl _) (.string u)
              generalize (((W0.setCell ⟨w.heap.size, 0, none⟩ (.int .i64 3)).setCell ⟨w.heap.size, 1, none⟩ (.string (s.extract 0 e))).setCell ⟨w.heap.size, 2, none⟩ (.string u)) = W9 at *
              have y0 : W9.cell? ⟨w.heap.size, 0, none⟩ = some (.int .i64 3) := by simp [World.cell?, hR9]
              have y1 : W9.cell? ⟨w.heap.size, 1, none⟩ = some (.string (s.extract 0 e)) := by simp [World.cell?, hR9]
              have y2 : W9.cell? ⟨w.heap.size, 2, none⟩ = some (.string u) := by simp [World.cell?, hR9]
              exact bodyPost_ret (v := .agg #[.int .i64 3, .string (s.extract 0 e), .string u]) (by simp [results, Tryz.results94, go_sem, y0, y1, y2]) rfl ⟨by rw [HE3.out]; rfl, hB9⟩
end Go.Proofs.YtebejlnegalokaaGreatDoor.Lz.Rf
