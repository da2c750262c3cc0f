/-
  XRfC, turned: what this seat needs of it.
-/
import Derived.Test.YtamclieppbnpiaaGreatDoorProg
import Derived.Test.YtamclieppbnpiaaGreatDoorReg
import Derived.WalkKit
import Derived.WalkSpells
import Derived.WalkLawsBesides
import Derived.Lib.Hide
import Derived.Lib.MinMax
import Derived.Deep.QuietTactic
import Derived.BigQuiet
import Derived.OwnWalk
import Derived.Deep.AppendLies
import Derived.KernelRfl
import Derived.Test.YtamclieppbnpiaaGreatDoorReg
import Derived.WalkKit
import Derived.Lib.TrimU
import Derived.Lib.QuoteLoop
import Derived.Below
import Derived.Laws.OwnMore
import Derived.Deep.Draws
import Derived.Deep.AppendLies
import Derived.Shelf.Strings.BuilderF
import Derived.Lib.FrozenHead2
import Derived.Deep.OwnRows
import Derived.Maps.AppendAt
import Derived.Deep.RegionWith
import Derived.Test.YtamclieppbnpiaaGreatDoorMap
import Derived.Test.YtamclieppbnpiaaGreatDoorRegZ
import Derived.Laws.RangeAny
import Derived.Shelf.Abstract
import Derived.Maps.OwnSet
import Derived.OneCell
import Derived.Laws.Rows
import Derived.Test.YtamclieppbnpiaaGreatDoorJsLay
import Derived.Test.YtamclieppbnpiaaGreatDoorLzM1
import Derived.Laws.MakeOwn
set_option linter.unusedSimpArgs false
set_option linter.unusedVariables false
namespace Go.Proofs.YtamclieppbnpiaaGreatDoor.Lz.Rf
open Go.RowKit
theorem byteN_get (s : ByteArray) (k : Nat) (h : k < s.size) : byteN s k = s[k].toNat := by
  unfold byteN
  have e : s.get! k = s[k] := by
    unfold ByteArray.get!
    rw [ByteArray.getElem_eq_getElem_data]
    exact getElem!_pos s.data k h
  rw [e]
theorem goes_yes (s : ByteArray) (k : Nat) : goes s k = true ↔ 128 ≤ byteN s k ∧ byteN s k ≤ 191 := by
  unfold goes
  rw [Bool.and_eq_true, decide_eq_true_eq, decide_eq_true_eq]
theorem bits_bound (b : Nat) (h : b < 256) : 0 ≤ bits b ∧ bits b ≤ 255 := by
  unfold bits
  repeat' split
  all_goals omega
theorem val_bound (s : ByteArray) (k : Nat) (h1 : 1 ≤ k) (h4 : k ≤ 4) (hg : ∀ j, 1 ≤ j → j < k → goes s j = true) : 0 ≤ valN s k ∧ valN s k ≤ 200000000 := by
  have b := bits_bound (byteN s 0) (byteN_lt s 0)
  have g : ∀ j, 1 ≤ j → j < k → 128 ≤ byteN s j ∧ byteN s j ≤ 191 := fun j a c => (goes_yes s j).1 (hg j a c)
  rcases (show k = 1 ∨ k = 2 ∨ k = 3 ∨ k = 4 by omega) with rfl | rfl | rfl | rfl
  · simp only [valN]
    omega
  · have g1 := g 1 (by omega) (by omega)
    simp only [valN, Nat.zero_add, Nat.reduceAdd]
    omega
  · have g1 := g 1 (by omega) (by omega)
    have g2 := g 2 (by omega) (by omega)
    simp only [valN, Nat.zero_add, Nat.reduceAdd]
    omega
  · have g1 := g 1 (by omega) (by omega)
    have g2 := g 2 (by omega) (by omega)
    have g3 := g 3 (by omega) (by omega)
    simp only [valN, Nat.zero_add, Nat.reduceAdd]
    omega
set_option maxRecDepth 100000 in
set_option maxHeartbeats 8000000 in
theorem step_any (s : ByteArray) (w : World) (hs : s.size ≤ 1000000) (h0 : 0 < s.size) :
    Calls Tryz.prog 65 #[.string s] w fun r w' => r = .returned (.int .i64 (dStep s : Int)) ∧ w' = w := by
  have HD := Lib.hid (decode_is s h0)
  have e0 := byteN_get s 0 h0
  have hb0 := byteN_lt s 0
  have q4 : s.toList.isEmpty = false := empty_not (u := s) (fun e => by rw [e] at h0; simp at h0)
  have z0 : (0 : Int) < (s.size : Int) := by omega
  by_cases c2 : 194 ≤ byteN s 0 ∧ byteN s 0 < 224
  · have hl : lead (byteN s 0) = 2 := by unfold lead; rw [if_pos c2]
    have hm : leastOf (byteN s 0) = 128 := by unfold leastOf; rw [if_pos c2]
    have hv1 : valN s 1 = (s[0].toNat : Int) - 192 := by rw [← e0]; simp only [valN, bits, if_pos c2]
    rw [e0] at hb0
    have w0 : wrap64 (s[0].toNat : Int) = (s[0].toNat : Int) := by unfold wrap64; omega
    have w1 : wrap64 ((s[0].toNat : Int) - 192) = (s[0].toNat : Int) - 192 := by unfold wrap64; rw [e0] at c2; omega
    have d1 : (194 : Int) ≤ (s[0].toNat : Int) := by rw [e0] at c2; omega
    have d2 : (s[0].toNat : Int) < 224 := by rw [e0] at c2; omega
    have d3 : ¬ (224 : Int) ≤ (s[0].toNat : Int) := by rw [e0] at c2; omega
    have d4 : ¬ (240 : Int) ≤ (s[0].toNat : Int) := by rw [e0] at c2; omega
    have HV1 := Lib.hid hv1
    have HE0 := Lib.hid e0
    rw [hl] at HD
    have HB : Hid (badN s 2 = (decide (1 < 2) && (decide (valN s 2 < 128) || (decide (valN s 2 > 1114111) || (decide (55296 ≤ valN s 2) && decide (valN s 2 ≤ 57343)))))) := Lib.hid (by unfold badN; rw [hm])
    clear c2 hl hm hv1 e0 hb0
    by_cases hz : s.size < 2
    · have hd : dStep s = 1 := by rw [HD.out, if_pos (.inl hz)]
      have hz1 : (s.size : Int) < 2 := by omega
      rw [hd]
      clear hd hz HD HB HV1 HE0
      go_enter Tryz.func65, Tryz.ntmps65
      go_wp2_with fail
      go_ret
      exact ⟨rfl, rfl⟩
    · have hz1 : ¬ ((s.size : Int) < 2) := by omega
      go_enter Tryz.func65, Tryz.ntmps65
      go_wp2_with fail
      rw [← HV1.out]
      go_loop [5, 6] (fun v i => ∃ k : Nat, 1 ≤ k ∧ k ≤ 2 ∧ i = .int .i64 (k : Int) ∧ v = .int .i64 (valN s k) ∧ Hid (∀ j, 1 ≤ j → j < k → goes s j = true)) (fun _ i => 2 - (intOf i).toNat)
      case atStart => exact ⟨1, by omega, by omega, rfl, rfl, Lib.hid (fun j a b => by omega)⟩
      case round =>
        obtain ⟨k, hk1, hk2, rfl, rfl, HG⟩ := hrel
        by_cases hk : k < 2
        · have hks : k < s.size := by omega
          have ek := byteN_get s k hks
          have hbk := byteN_lt s k
          have p1 : (k : Int) < (s.size : Int) := by omega
          have p2 : (k : Int) < 2 := by omega
          have hgy := goes_yes s k
          have hgn := goes_no s k
          rw [ek] at hgy hgn hbk
          by_cases hg : 128 ≤ s[k].toNat ∧ s[k].toNat ≤ 191
          · have hb1 := val_bound s k hk1 (by omega) HG.out
            have HGn : Hid (∀ j, 1 ≤ j → j < k + 1 → goes s j = true) := Lib.hid (fun j a b => by
              by_cases e : j = k
              · subst e; exact hgy.2 hg
              · exact HG.out j a (by omega))
            have HVn : Hid (64 * valN s k + (s[k].toNat : Int) - 128 = valN s (k + 1)) := Lib.hid (by
              obtain ⟨m, rfl⟩ : ∃ m, k = m + 1 := ⟨k - 1, by omega⟩
              rw [← ek]; rfl)
            generalize valN s k = V at *
            have r1 : ¬ ((s[k].toNat : Int) < 128) := by omega
            have r2 : ¬ (191 < (s[k].toNat : Int)) := by omega
            have r3 : wrap64 (64 * V) = 64 * V := by unfold wrap64; omega
            have r4 : wrap64 (s[k].toNat : Int) = (s[k].toNat : Int) := by unfold wrap64; omega
            have r5 : wrap64 (64 * V + (s[k].toNat : Int)) = 64 * V + (s[k].toNat : Int) := by unfold wrap64; omega
            have r6 : wrap64 (64 * V + (s[k].toNat : Int) - 128) = 64 * V + (s[k].toNat : Int) - 128 := by unfold wrap64; omega
            clear hgy hgn hg HG ek
            go_wp2_with fail
            go_round
            case rel => exact ⟨k + 1, by omega, by omega, by go_num, by rw [HVn.out], HGn⟩
            case measure => simp [intOf]; omega
          · have hd : dStep s = 1 := by rw [HD.out, if_pos (.inr (.inl ⟨k, hk1, hk, hgn.2 hg⟩))]
            have HDD := Lib.hid hd
            clear hd HD HB HG hgy hgn
            by_cases r1 : (s[k].toNat : Int) < 128
            · clear hg ek hbk
              go_wp2_with fail
              go_ret
              exact ⟨by rw [HDD.out]; rfl, rfl⟩
            · have r2 : 191 < (s[k].toNat : Int) := by omega
              clear hg ek hbk
              go_wp2_with fail
              go_ret
              exact ⟨by rw [HDD.out]; rfl, rfl⟩
        · obtain rfl : k = 2 := by omega
          have hb1 := val_bound s 2 (by omega) (by omega) HG.out
          have hne : ¬ ∃ j, 1 ≤ j ∧ j < 2 ∧ goes s j = false := fun ⟨j, a, b, e⟩ => by rw [HG.out j a b] at e; cases e
          have hbad : badN s 2 = true → dStep s = 1 := fun h => by rw [HD.out, if_pos (.inr (.inr h))]
          have hgood : ¬ badN s 2 = true → dStep s = 2 := fun h => by rw [HD.out, if_neg (fun e => by rcases e with e | e | e; exact absurd e (by omega); exact hne e; exact h e)]
          rw [HB.out] at hbad hgood
          clear HB HD HG hne
          generalize valN s 2 = V at *
          by_cases b1 : V < 128
          · have hd := hbad (by simp [b1])
            have HDD := Lib.hid hd
            clear hbad hgood hd
            go_wp2_with fail
            go_ret
            exact ⟨by rw [HDD.out]; rfl, rfl⟩
          · by_cases b2 : 1114111 < V
            · have hd := hbad (by simp [b2])
              have HDD := Lib.hid hd
              clear hbad hgood hd
              go_wp2_with fail
              go_ret
              exact ⟨by rw [HDD.out]; rfl, rfl⟩
            · by_cases b3 : 55296 ≤ V
              · by_cases b4 : V ≤ 57343
                · have hd := hbad (by simp [b3, b4])
                  have HDD := Lib.hid hd
                  clear hbad hgood hd
                  go_wp2_with fail
                  go_ret
                  exact ⟨by rw [HDD.out]; rfl, rfl⟩
                · have hd := hgood (by simp [b1, b2, b3, b4]; try omega)
                  have HDD := Lib.hid hd
                  clear hbad hgood hd
                  go_wp2_with fail
                  go_ret
                  exact ⟨by rw [HDD.out]; rfl, rfl⟩
              · have hd := hgood (by simp [b1, b2, b3]; try omega)
                have HDD := Lib.hid hd
                clear hbad hgood hd
                go_wp2_with fail
                go_ret
                exact ⟨by rw [HDD.out]; rfl, rfl⟩
  · by_cases c3 : 224 ≤ byteN s 0 ∧ byteN s 0 < 240
    · have hl : lead (byteN s 0) = 3 := by unfold lead; rw [if_neg c2, if_pos c3]
      have hm : leastOf (byteN s 0) = 2048 := by unfold leastOf; rw [if_neg c2, if_pos c3]
      have hv1 : valN s 1 = (s[0].toNat : Int) - 224 := by rw [← e0]; simp only [valN, bits, if_neg c2, if_pos c3]
      rw [e0] at hb0
      have w0 : wrap64 (s[0].toNat : Int) = (s[0].toNat : Int) := by unfold wrap64; omega
      have w1 : wrap64 ((s[0].toNat : Int) - 224) = (s[0].toNat : Int) - 224 := by unfold wrap64; rw [e0] at c3; omega
      have d1 : (194 : Int) ≤ (s[0].toNat : Int) := by rw [e0] at c3; omega
      have d2 : ¬ ((s[0].toNat : Int) < 224) := by rw [e0] at c3; omega
      have d3 : (224 : Int) ≤ (s[0].toNat : Int) := by rw [e0] at c3; omega
      have d4 : (s[0].toNat : Int) < 240 := by rw [e0] at c3; omega
      have d5 : ¬ (240 : Int) ≤ (s[0].toNat : Int) := by rw [e0] at c3; omega
      have HV1 := Lib.hid hv1
      have HE0 := Lib.hid e0
      rw [hl] at HD
      have HB : Hid (badN s 3 = (decide (1 < 3) && (decide (valN s 3 < 2048) || (decide (valN s 3 > 1114111) || (decide (55296 ≤ valN s 3) && decide (valN s 3 ≤ 57343)))))) := Lib.hid (by unfold badN; rw [hm])
      clear c2 c3 hl hm hv1 e0 hb0
      by_cases hz : s.size < 3
      · have hd : dStep s = 1 := by rw [HD.out, if_pos (.inl hz)]
        have hz1 : (s.size : Int) < 3 := by omega
        rw [hd]
        clear hd hz HD HB HV1 HE0
        go_enter Tryz.func65, Tryz.ntmps65
        go_wp2_with fail
        go_ret
        exact ⟨rfl, rfl⟩
      · have hz1 : ¬ ((s.size : Int) < 3) := by omega
        go_enter Tryz.func65, Tryz.ntmps65
        go_wp2_with fail
        rw [← HV1.out]
        go_loop [5, 6] (fun v i => ∃ k : Nat, 1 ≤ k ∧ k ≤ 3 ∧ i = .int .i64 (k : Int) ∧ v = .int .i64 (valN s k) ∧ Hid (∀ j, 1 ≤ j → j < k → goes s j = true)) (fun _ i => 3 - (intOf i).toNat)
        case atStart => exact ⟨1, by omega, by omega, rfl, rfl, Lib.hid (fun j a b => by omega)⟩
        case round =>
          obtain ⟨k, hk1, hk2, rfl, rfl, HG⟩ := hrel
          by_cases hk : k < 3
          · have hks : k < s.size := by omega
            have ek := byteN_get s k hks
            have hbk := byteN_lt s k
            have p1 : (k : Int) < (s.size : Int) := by omega
            have p2 : (k : Int) < 3 := by omega
            have hgy := goes_yes s k
            have hgn := goes_no s k
            rw [ek] at hgy hgn hbk
            by_cases hg : 128 ≤ s[k].toNat ∧ s[k].toNat ≤ 191
            · have hb1 := val_bound s k hk1 (by omega) HG.out
              have HGn : Hid (∀ j, 1 ≤ j → j < k + 1 → goes s j = true) := Lib.hid (fun j a b => by
                by_cases e : j = k
                · subst e; exact hgy.2 hg
                · exact HG.out j a (by omega))
              have HVn : Hid (64 * valN s k + (s[k].toNat : Int) - 128 = valN s (k + 1)) := Lib.hid (by
                obtain ⟨m, rfl⟩ : ∃ m, k = m + 1 := ⟨k - 1, by omega⟩
                rw [← ek]; rfl)
              generalize valN s k = V at *
              have r1 : ¬ ((s[k].toNat : Int) < 128) := by omega
              have r2 : ¬ (191 < (s[k].toNat : Int)) := by omega
              have r3 : wrap64 (64 * V) = 64 * V := by unfold wrap64; omega
              have r4 : wrap64 (s[k].toNat : Int) = (s[k].toNat : Int) := by unfold wrap64; omega
              have r5 : wrap64 (64 * V + (s[k].toNat : Int)) = 64 * V + (s[k].toNat : Int) := by unfold wrap64; omega
              have r6 : wrap64 (64 * V + (s[k].toNat : Int) - 128) = 64 * V + (s[k].toNat : Int) - 128 := by unfold wrap64; omega
              clear hgy hgn hg HG ek
              go_wp2_with fail
              go_round
              case rel => exact ⟨k + 1, by omega, by omega, by go_num, by rw [HVn.out], HGn⟩
              case measure => simp [intOf]; omega
            · have hd : dStep s = 1 := by rw [HD.out, if_pos (.inr (.inl ⟨k, hk1, hk, hgn.2 hg⟩))]
              have HDD := Lib.hid hd
              clear hd HD HB HG hgy hgn
              by_cases r1 : (s[k].toNat : Int) < 128
              · clear hg ek hbk
                go_wp2_with fail
                go_ret
                exact ⟨by rw [HDD.out]; rfl, rfl⟩
              · have r2 : 191 < (s[k].toNat : Int) := by omega
                clear hg ek hbk
                go_wp2_with fail
                go_ret
                exact ⟨by rw [HDD.out]; rfl, rfl⟩
          · obtain rfl : k = 3 := by omega
            have hb1 := val_bound s 3 (by omega) (by omega) HG.out
            have hne : ¬ ∃ j, 1 ≤ j ∧ j < 3 ∧ goes s j = false := fun ⟨j, a, b, e⟩ => by rw [HG.out j a b] at e; cases e
            have hbad : badN s 3 = true → dStep s = 1 := fun h => by rw [HD.out, if_pos (.inr (.inr h))]
            have hgood : ¬ badN s 3 = true → dStep s = 3 := fun h => by rw [HD.out, if_neg (fun e => by rcases e with e | e | e; exact absurd e (by omega); exact hne e; exact h e)]
            rw [HB.out] at hbad hgood
            clear HB HD HG hne
            generalize valN s 3 = V at *
            by_cases b1 : V < 2048
            · have hd := hbad (by simp [b1])
              have HDD := Lib.hid hd
              clear hbad hgood hd
              go_wp2_with fail
              go_ret
              exact ⟨by rw [HDD.out]; rfl, rfl⟩
            · by_cases b2 : 1114111 < V
              · have hd := hbad (by simp [b2])
                have HDD := Lib.hid hd
                clear hbad hgood hd
                go_wp2_with fail
                go_ret
                exact ⟨by rw [HDD.out]; rfl, rfl⟩
              · by_cases b3 : 55296 ≤ V
                · by_cases b4 : V ≤ 57343
                  · have hd := hbad (by simp [b3, b4])
                    have HDD := Lib.hid hd
                    clear hbad hgood hd
                    go_wp2_with fail
                    go_ret
                    exact ⟨by rw [HDD.out]; rfl, rfl⟩
                  · have hd := hgood (by simp [b1, b2, b3, b4]; try omega)
                    have HDD := Lib.hid hd
                    clear hbad hgood hd
                    go_wp2_with fail
                    go_ret
                    exact ⟨by rw [HDD.out]; rfl, rfl⟩
                · have hd := hgood (by simp [b1, b2, b3]; try omega)
                  have HDD := Lib.hid hd
                  clear hbad hgood hd
                  go_wp2_with fail
                  go_ret
                  exact ⟨by rw [HDD.out]; rfl, rfl⟩
    · by_cases c4 : 240 ≤ byteN s 0 ∧ byteN s 0 < 245
      · have hl : lead (byteN s 0) = 4 := by unfold lead; rw [if_neg c2, if_neg c3, if_pos c4]
        have hm : leastOf (byteN s 0) = 65536 := by unfold leastOf; rw [if_neg c2, if_neg c3, if_pos c4]
        have hv1 : valN s 1 = (s[0].toNat : Int) - 240 := by rw [← e0]; simp only [valN, bits, if_neg c2, if_neg c3, if_pos c4]
        rw [e0] at hb0
        have w0 : wrap64 (s[0].toNat : Int) = (s[0].toNat : Int) := by unfold wrap64; omega
        have w1 : wrap64 ((s[0].toNat : Int) - 240) = (s[0].toNat : Int) - 240 := by unfold wrap64; rw [e0] at c4; omega
        have d1 : (194 : Int) ≤ (s[0].toNat : Int) := by rw [e0] at c4; omega
        have d2 : ¬ ((s[0].toNat : Int) < 224) := by rw [e0] at c4; omega
        have d3 : (224 : Int) ≤ (s[0].toNat : Int) := by rw [e0] at c4; omega
        have d4 : ¬ ((s[0].toNat : Int) < 240) := by rw [e0] at c4; omega
        have d5 : (240 : Int) ≤ (s[0].toNat : Int) := by rw [e0] at c4; omega
        have d6 : (s[0].toNat : Int) < 245 := by rw [e0] at c4; omega
        have HV1 := Lib.hid hv1
        have HE0 := Lib.hid e0
        rw [hl] at HD
        have HB : Hid (badN s 4 = (decide (1 < 4) && (decide (valN s 4 < 65536) || (decide (valN s 4 > 1114111) || (decide (55296 ≤ valN s 4) && decide (valN s 4 ≤ 57343)))))) := Lib.hid (by unfold badN; rw [hm])
        clear c2 c3 c4 hl hm hv1 e0 hb0
        by_cases hz : s.size < 4
        · have hd : dStep s = 1 := by rw [HD.out, if_pos (.inl hz)]
          have hz1 : (s.size : Int) < 4 := by omega
          rw [hd]
          clear hd hz HD HB HV1 HE0
          go_enter Tryz.func65, Tryz.ntmps65
          go_wp2_with fail
          go_ret
          exact ⟨rfl, rfl⟩
        · have hz1 : ¬ ((s.size : Int) < 4) := by omega
          go_enter Tryz.func65, Tryz.ntmps65
          go_wp2_with fail
          rw [← HV1.out]
          go_loop [5, 6] (fun v i => ∃ k : Nat, 1 ≤ k ∧ k ≤ 4 ∧ i = .int .i64 (k : Int) ∧ v = .int .i64 (valN s k) ∧ Hid (∀ j, 1 ≤ j → j < k → goes s j = true)) (fun _ i => 4 - (intOf i).toNat)
          case atStart => exact ⟨1, by omega, by omega, rfl, rfl, Lib.hid (fun j a b => by omega)⟩
          case round =>
            obtain ⟨k, hk1, hk2, rfl, rfl, HG⟩ := hrel
            by_cases hk : k < 4
            · have hks : k < s.size := by omega
              have ek := byteN_get s k hks
              have hbk := byteN_lt s k
              have p1 : (k : Int) < (s.size : Int) := by omega
              have p2 : (k : Int) < 4 := by omega
              have hgy := goes_yes s k
              have hgn := goes_no s k
              rw [ek] at hgy hgn hbk
              by_cases hg : 128 ≤ s[k].toNat ∧ s[k].toNat ≤ 191
              · have hb1 := val_bound s k hk1 (by omega) HG.out
                have HGn : Hid (∀ j, 1 ≤ j → j < k + 1 → goes s j = true) := Lib.hid (fun j a b => by
                  by_cases e : j = k
                  · subst e; exact hgy.2 hg
                  · exact HG.out j a (by omega))
                have HVn : Hid (64 * valN s k + (s[k].toNat : Int) - 128 = valN s (k + 1)) := Lib.hid (by
                  obtain ⟨m, rfl⟩ : ∃ m, k = m + 1 := ⟨k - 1, by omega⟩
                  rw [← ek]; rfl)
                generalize valN s k = V at *
                have r1 : ¬ ((s[k].toNat : Int) < 128) := by omega
                have r2 : ¬ (191 < (s[k].toNat : Int)) := by omega
                have r3 : wrap64 (64 * V) = 64 * V := by unfold wrap64; omega
                have r4 : wrap64 (s[k].toNat : Int) = (s[k].toNat : Int) := by unfold wrap64; omega
                have r5 : wrap64 (64 * V + (s[k].toNat : Int)) = 64 * V + (s[k].toNat : Int) := by unfold wrap64; omega
                have r6 : wrap64 (64 * V + (s[k].toNat : Int) - 128) = 64 * V + (s[k].toNat : Int) - 128 := by unfold wrap64; omega
                clear hgy hgn hg HG ek
                go_wp2_with fail
                go_round
                case rel => exact ⟨k + 1, by omega, by omega, by go_num, by rw [HVn.out], HGn⟩
                case measure => simp [intOf]; omega
              · have hd : dStep s = 1 := by rw [HD.out, if_pos (.inr (.inl ⟨k, hk1, hk, hgn.2 hg⟩))]
                have HDD := Lib.hid hd
                clear hd HD HB HG hgy hgn
                by_cases r1 : (s[k].toNat : Int) < 128
                · clear hg ek hbk
                  go_wp2_with fail
                  go_ret
                  exact ⟨by rw [HDD.out]; rfl, rfl⟩
                · have r2 : 191 < (s[k].toNat : Int) := by omega
                  clear hg ek hbk
                  go_wp2_with fail
                  go_ret
                  exact ⟨by rw [HDD.out]; rfl, rfl⟩
            · obtain rfl : k = 4 := by omega
              have hb1 := val_bound s 4 (by omega) (by omega) HG.out
              have hne : ¬ ∃ j, 1 ≤ j ∧ j < 4 ∧ goes s j = false := fun ⟨j, a, b, e⟩ => by rw [HG.out j a b] at e; cases e
              have hbad : badN s 4 = true → dStep s = 1 := fun h => by rw [HD.out, if_pos (.inr (.inr h))]
              have hgood : ¬ badN s 4 = true → dStep s = 4 := fun h => by rw [HD.out, if_neg (fun e => by rcases e with e | e | e; exact absurd e (by omega); exact hne e; exact h e)]
              rw [HB.out] at hbad hgood
              clear HB HD HG hne
              generalize valN s 4 = V at *
              by_cases b1 : V < 65536
              · have hd := hbad (by simp [b1])
                have HDD := Lib.hid hd
                clear hbad hgood hd
                go_wp2_with fail
                go_ret
                exact ⟨by rw [HDD.out]; rfl, rfl⟩
              · by_cases b2 : 1114111 < V
                · have hd := hbad (by simp [b2])
                  have HDD := Lib.hid hd
                  clear hbad hgood hd
                  go_wp2_with fail
                  go_ret
                  exact ⟨by rw [HDD.out]; rfl, rfl⟩
                · by_cases b3 : 55296 ≤ V
                  · by_cases b4 : V ≤ 57343
                    · have hd := hbad (by simp [b3, b4])
                      have HDD := Lib.hid hd
                      clear hbad hgood hd
                      go_wp2_with fail
                      go_ret
                      exact ⟨by rw [HDD.out]; rfl, rfl⟩
                    · have hd := hgood (by simp [b1, b2, b3, b4]; try omega)
                      have HDD := Lib.hid hd
                      clear hbad hgood hd
                      go_wp2_with fail
                      go_ret
                      exact ⟨by rw [HDD.out]; rfl, rfl⟩
                  · have hd := hgood (by simp [b1, b2, b3]; try omega)
                    have HDD := Lib.hid hd
                    clear hbad hgood hd
                    go_wp2_with fail
                    go_ret
                    exact ⟨by rw [HDD.out]; rfl, rfl⟩
      · have hl : lead (byteN s 0) = 1 := by unfold lead; rw [if_neg c2, if_neg c3, if_neg c4]
        have hd : dStep s = 1 := by rw [HD.out, hl]; split <;> rfl
        rw [hd]
        have c1 : ¬ ((s.size : Int) < 1) := by omega
        have d : ((s[0].toNat : Int) < 194) ∨ (240 ≤ (s[0].toNat : Int) ∧ 245 ≤ (s[0].toNat : Int)) := by rw [← e0]; omega
        rw [e0] at c2 c3 c4 hb0
        clear hd hl HD e0
        have w0 : wrap64 (s[0].toNat : Int) = (s[0].toNat : Int) := by unfold wrap64; omega
        rcases d with d | ⟨d5, d6⟩
        · have d1 : ¬ (194 : Int) ≤ (s[0].toNat : Int) := by omega
          have d2 : ¬ (224 : Int) ≤ (s[0].toNat : Int) := by omega
          have d3 : ¬ (240 : Int) ≤ (s[0].toNat : Int) := by omega
          clear c2 c3 c4 d hb0
          go_enter Tryz.func65, Tryz.ntmps65
          go_wp2_with fail
          go_loop [6] (fun i => i = .int .i64 1) (fun _ => 0)
          case atStart => rfl
          case round =>
            subst hrel
            go_wp2_with fail
            go_ret
            exact ⟨rfl, rfl⟩
        · have d1 : (194 : Int) ≤ (s[0].toNat : Int) := by omega
          have d2 : (224 : Int) ≤ (s[0].toNat : Int) := by omega
          have d3 : ¬ ((s[0].toNat : Int) < 224) := by omega
          have d4 : ¬ ((s[0].toNat : Int) < 240) := by omega
          have d7 : ¬ ((s[0].toNat : Int) < 245) := by omega
          clear c2 c3 c4 hb0
          go_enter Tryz.func65, Tryz.ntmps65
          go_wp2_with fail
          go_loop [6] (fun i => i = .int .i64 1) (fun _ => 0)
          case atStart => rfl
          case round =>
            subst hrel
            go_wp2_with fail
            go_ret
            exact ⟨rfl, rfl⟩
end Go.Proofs.YtamclieppbnpiaaGreatDoor.Lz.Rf
/-
  XFrX, turned: what this seat needs of it.
-/
namespace Go.Proofs.YtamclieppbnpiaaGreatDoor.Fz
open Lz (cell_lt)
open Go Go.RowKit
/-- The slice value '.slice A n c' holds, in w, the texts l. -/
def HoldsS (w : World) (A : Option Addr) (l : List ByteArray) : Prop :=
  ∀ (k : Nat) (x : ByteArray), l[k]? = some x → ∃ b off, A = some ⟨b, off, none⟩ ∧ w.cell? ⟨b, off + k, none⟩ = some (.string x)
theorem HoldsS.below {w w' : World} {A : Option Addr} {l : List ByteArray} (h : HoldsS w A l) (hb : Below w.heap.size w w') : HoldsS w' A l := fun k x hx => by
  obtain ⟨b, off, e, h1⟩ := h k x hx
  exact ⟨b, off, e, (hb.cell (p := ⟨b, _, none⟩) (cell_lt h1)).trans h1⟩
theorem HoldsS.nil (w : World) (A : Option Addr) : HoldsS w A [] := fun k x hx => by simp at hx
theorem list_eq {α : Type} {a b : List α} (hl : a.length = b.length) (h : ∀ k : Nat, k < a.length → a[k]? = b[k]?) : a = b := by
  refine List.ext_getElem? fun k => ?_
  by_cases hk : k < a.length
  · exact h k hk
  · rw [List.getElem?_eq_none (by omega), List.getElem?_eq_none (by omega)]
set_option maxRecDepth 100000 in
set_option maxHeartbeats 4000000 in
theorem Texts_any (a b : List ByteArray) (A C : Option Addr) (c d : Nat) (w : World) (ha : a.length ≤ 1000000) (hb : b.length ≤ 1000000) (hA : HoldsS w A a) (hC : HoldsS w C b) :
    Calls Tryz.prog 31 #[.slice A a.length c, .slice C b.length d] w fun e w' => e = .returned (.bool (decide (a = b))) ∧ Below w.heap.size w w' := by
  have HA := Lib.hid hA
  have HC := Lib.hid hC
  clear hA hC
  by_cases hl : a.length = b.length
  · have ql2 : ((a.length : Int) != (b.length : Int)) = false := by rw [hl]; simp
    have HL := Lib.hid hl
    have hl2 : b.length ≤ a.length := by omega
    have hl3 : a.length ≤ b.length := by omega
    clear hl
    go_enter Tryz.func31, Tryz.ntmps31
    go_wp2_with fail
    go_loopw [5] (fun i wr => ∃ (k : Nat), i = .int .i64 k ∧ k ≤ a.length ∧ Hid (∀ j : Nat, j < k → a[j]? = b[j]?) ∧ Hid (Below w.heap.size w wr)) (fun i _ => a.length - (intOf i).toNat)
    case atStart => exact ⟨0, rfl, Nat.zero_le _, Lib.hid (fun j hj => by omega), Lib.hid (Below.refl _ _)⟩
    case round =>
      obtain ⟨k, rfl, hk, HP, HB⟩ := hrel
      by_cases hlt : k < a.length
      · have ga := List.getElem?_eq_getElem (l := a) (i := k) hlt
        have gb := List.getElem?_eq_getElem (l := b) (i := k) (by omega)
        generalize a[k]'hlt = x at *
        generalize b[k]'(by omega) = y at *
        obtain ⟨b1, off1, rfl, d0⟩ := (HA.out.below HB.out) k x ga
        obtain ⟨b2, off2, rfl, f0⟩ := (HC.out.below HB.out) k y gb
        have i0 : (0 : Int) ≤ (k : Int) := by omega
        have i1 : (k : Int) < (a.length : Int) := by omega
        have i2 : (k : Int) < (b.length : Int) := by omega
        have HPN : Hid (x = y → ∀ j : Nat, j < k + 1 → a[j]? = b[j]?) := Lib.hid (fun e j hj => by
          by_cases hjk : j = k
          · subst hjk; rw [ga, gb, e]
          · exact HP.out j (by omega))
        have HNE : Hid (x ≠ y → a ≠ b) := Lib.hid (fun hne e => hne (by rw [e, gb] at ga; exact (Option.some.inj ga).symm))
        clear ga gb
        by_cases hxy : x = y
        · have HP2 := Lib.hid (HPN.out hxy)
          have q := bytes_beq_yes hxy
          clear HPN HNE hxy
          go_wp2_with fail
          go_quiet (fail)
          go_wp2_with fail
          go_roundw
          case rel => exact ⟨k + 1, by go_num, by omega, HP2, Lib.hid (below_drewN HB.out _)⟩
          case measure => simp [intOf]; omega
        · have HE : Hid (decide (a = b) = false) := Lib.hid (by simpa using HNE.out hxy)
          have q := bytes_beq_no hxy
          clear HPN HNE hxy
          go_wp2_with fail
          go_quiet (fail)
          go_wp2_with fail
          go_ret
          exact ⟨by rw [HE.out]; rfl, below_drewN HB.out _⟩
      · obtain rfl : k = a.length := by omega
        have HE : Hid (decide (a = b) = true) := Lib.hid (by simpa using list_eq HL.out HP.out)
        go_wp2_with fail
        go_ret
        exact ⟨by rw [HE.out]; rfl, HB.out⟩
  · have ql2 : ((a.length : Int) != (b.length : Int)) = true := by simp; omega
    have HE : Hid (decide (a = b) = false) := Lib.hid (by simpa using fun e => hl (by rw [e]))
    clear hl
    go_enter Tryz.func31, Tryz.ntmps31
    go_wp2_with fail
    go_ret
    exact ⟨by rw [HE.out]; rfl, Below.refl _ _⟩
end Go.Proofs.YtamclieppbnpiaaGreatDoor.Fz
