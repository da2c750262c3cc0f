/-
  The walk of the statement EditMakes.
-/
import Derived.Test.YtkfdjffoljkomaaDoorProg
import Derived.Test.YtkfdjffoljkomaaDoorReg
import Derived.WalkKit
import Derived.WalkSpells
import Derived.WalkLawsBesides
import Derived.Lib.Hide
import Derived.Lib.MinMax
import Derived.Deep.QuietTactic
import Derived.BigQuiet
import Derived.OwnWalk
import Derived.Deep.AppendLies
import Derived.KernelRfl
import Derived.Test.YtkfdjffoljkomaaDoorEdJ
import Derived.Test.YtkfdjffoljkomaaDoorEdL
import Derived.Test.YtkfdjffoljkomaaDoorEdV
import Derived.Test.YtkfdjffoljkomaaDoorEdMk
set_option linter.unusedSimpArgs false
set_option linter.unusedVariables false
namespace Go.Proofs.YtkfdjffoljkomaaDoor
open Go.RowKit

set_option maxRecDepth 100000 in
set_option maxHeartbeats 8000000 in
theorem editMakes_any (s t : ByteArray) (b : Addr) (w : World) (hs : s.size ≤ maxLen) (ht : t.size ≤ maxLen) (hg : ErrAt b w) :
    Calls Tryd.prog 8 #[.string s, .string t] w fun e w' => e = .returned (.bool true) ∧ Below w.heap.size w w' := by
  have HS := Lib.hid (shown_any b w hg)
  have Hg := Lib.hid hg
  clear hg
  go_enter Tryd.func8, Tryd.ntmps8
  go_wp2_with fail
  refine HS.out.mono ?_
  rintro e w1 ⟨rfl, hb1⟩
  go_wp2_with fail
  refine (show Calls _ _ _ _ fun e w' => e = .returned (.string (cut s)) ∧ w1 = w' from cut_any s w1 hs).mono ?_
  rintro e w1' ⟨rfl, rfl⟩
  have hcs := cut_small s
  generalize cut s = S at *
  go_wp2_with fail
  refine (show Calls _ _ _ _ fun e w' => e = .returned (.string (cut t)) ∧ w1 = w' from cut_any t w1 ht).mono ?_
  rintro e w1' ⟨rfl, rfl⟩
  have hct := cut_small t
  generalize cut t = T at *
  clear HS hs ht
  have hg1 := Hg.out.below hb1
  go_wp2_with fail
  refine (between_any S T w1 (by omega) (by omega)).mono ?_
  rintro e w2 ⟨B, d, rfl, hH2, hd2, hb2⟩
  have b12 : Below w.heap.size w w2 := hb1.trans (hb2.mono hb1.size)
  have hg2 := hg1.below hb2
  clear hb1 hb2 hg1
  go_wp2_with fail
  refine (lines_any S T w2 (by omega) (by omega)).mono ?_
  rintro e w3 ⟨C, c, rfl, hH3, hc3, hb3⟩
  have hH23 := hH2.below hb3
  have b13 : Below w.heap.size w w3 := b12.trans (hb3.mono b12.size)
  have hg3 := hg2.below hb3
  clear hb3 b12 hH2 hg2
  have hA := fun W h1 h2 => apply_any S B d (between S T) b W (by omega) (mild_between hcs hct) hd2 h1 h2
  rw [applyOut_yes (between_makes S T).2, (between_makes S T).1] at hA
  have hB := fun W h1 h2 => apply_any S C c (linesOut S T) b W (by omega) (mild_lines hcs hct) hc3 h1 h2
  rw [applyOut_yes (lines_make S T).2, (lines_make S T).1] at hB
  have HA := Lib.hid hA
  have HB := Lib.hid hB
  clear hA hB
  go_wp2_with fail
  refine (HA.out w3 hH23 hg3).mono ?_
  rintro e w4 ⟨rfl, hb4⟩
  have hH4 := hH3.below hb4
  have hg4 := hg3.below hb4
  have b14 : Below w.heap.size w w4 := b13.trans (hb4.mono b13.size)
  clear hb4 b13 hH23 hH3 hg3
  go_wp2_with fail
  refine (HB.out w4 hH4 hg4).mono ?_
  rintro e w5 ⟨rfl, hb5⟩
  have b15 : Below w.heap.size w w5 := b14.trans (hb5.mono b14.size)
  clear hb5 b14 HA HB hH4 hg4
  have h1 := between_le S T
  have h2 := linesOut_len S T
  have hq1 : S = T → (between S T).length = 0 ∧ (linesOut S T).length = 0 := fun h => ⟨by rw [between_nil.2 h]; rfl, by rw [(linesOut_nil S T).2 h]; rfl⟩
  have hq2 : S ≠ T → 0 < (between S T).length ∧ 0 < (linesOut S T).length := fun h => ⟨List.length_pos_iff.2 (fun e => h (between_nil.1 e)), List.length_pos_iff.2 (fun e => h ((linesOut_nil S T).1 e))⟩
  generalize (between S T).length = N1 at *
  generalize (linesOut S T).length = N2 at *
  have Hc := Lib.hid h2
  have Q1 := Lib.hid hq1
  have Q2 := Lib.hid hq2
  clear h2 hq1 hq2
  go_wp2_with fail
  go_loopw [12, 13] (fun n i wr => ∃ (k m : Nat), k ≤ S.size ∧ i = .int .i64 k ∧ n = .int .i64 m ∧ m ≤ k + 1 ∧ Hid (m = (S.data.toList.take k).count 10 + 1) ∧ wr = w5)
    (fun _ i _ => S.size - (intOf i).toNat)
  case atStart => exact ⟨0, 1, by omega, rfl, rfl, by omega, Lib.hid rfl, rfl⟩
  case round =>
    obtain ⟨k, m, hk, rfl, rfl, hm, Hm, rfl⟩ := hrel
    by_cases hlt : k < S.size
    · have hstep := count_step hlt
      by_cases hc : S[k] = 10
      · have hq : ((S[k].toNat : Int) == 10) = true := by rw [hc]; rfl
        rw [if_pos hc] at hstep
        have Hs := Lib.hid hstep
        clear hstep hc
        go_wp2_with fail
        go_roundw
        case rel => exact ⟨k + 1, m + 1, by omega, by go_num, by go_num, by omega, Lib.hid (by rw [Hs.out, Hm.out]), by first | rfl | trivial⟩
        case measure => simp [intOf]; omega
      · have hq : ((S[k].toNat : Int) == 10) = false := by
          simp
          intro e
          exact hc (UInt8.toNat_inj.1 (by have : S[k].toNat = 10 := by omega
                                          rw [this]; rfl))
        rw [if_neg hc] at hstep
        have Hs := Lib.hid hstep
        clear hstep hc
        go_wp2_with fail
        go_roundw
        case rel => exact ⟨k + 1, m, by omega, by go_num, rfl, by omega, Lib.hid (by rw [Hs.out, Hm.out]), by first | rfl | trivial⟩
        case measure => simp [intOf]; omega
    · obtain rfl : k = S.size := by omega
      have hmm : N2 ≤ m := by
        have h1 := Hc.out
        have h2 := Hm.out
        rw [List.take_of_length_le (by rw [bytes_len]; exact Nat.le_refl _)] at h2
        omega
      have hT := bytes_beq_yes (rfl : T = T)
      by_cases hne : S = T
      · have e1 := bytes_beq_yes hne
        obtain ⟨z1, z2⟩ := Q1.out hne
        subst z1 z2
        clear hne Q1 Q2 Hc Hm
        go_wp2_with fail
        go_ret
        exact ⟨rfl, b15⟩
      · have e1 := bytes_beq_no hne
        obtain ⟨z1, z2⟩ := Q2.out hne
        have y1 : ((N1 : Int) == 0) = false := by simp; omega
        have y2 : ((N2 : Int) == 0) = false := by simp; omega
        clear hne Q1 Q2 Hc Hm
        go_wp2_with fail
        go_ret
        exact ⟨rfl, b15⟩
end Go.Proofs.YtkfdjffoljkomaaDoor
