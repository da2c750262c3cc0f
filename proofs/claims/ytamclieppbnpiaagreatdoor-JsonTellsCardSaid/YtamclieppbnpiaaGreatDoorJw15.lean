/-
  Which values are right: by the document's program text. Small steps.
-/
import Derived.Test.YtamclieppbnpiaaGreatDoorProg
import Derived.Test.YtamclieppbnpiaaGreatDoorReg
import Derived.WalkKit
import Derived.WalkSpells
import Derived.WalkLawsBesides
import Derived.Lib.Hide
import Derived.Lib.MinMax
import Derived.Deep.QuietTactic
import Derived.BigQuiet
import Derived.OwnWalk
import Derived.Deep.AppendLies
import Derived.KernelRfl
import Derived.Laws.RangeAny
import Derived.Deep.RegionLaw
import Derived.Deep.RegionWith
import Derived.Test.YtamclieppbnpiaaGreatDoorLzM2
import Derived.Test.YtamclieppbnpiaaGreatDoorRegG
import Derived.Test.YtamclieppbnpiaaGreatDoorJw14
set_option linter.unusedSimpArgs false
set_option linter.unusedVariables false
namespace Go.Proofs.YtamclieppbnpiaaGreatDoor
open Go Go.RowKit Go.Sort Go.Shelf
open Fz (HoldsS)
open Lz.Rf (step_any)

theorem bs_rest (l : List UInt8) (k : Nat) : (bs l).extract k (bs l).size = bs (l.drop k) := by rw [bs_size, bs_drop]
theorem dStep_bs (l : List UInt8) : Lz.dStep (bs l) = (Lib.decodeL l).2 := rfl
set_option maxRecDepth 100000 in
set_option maxHeartbeats 8000000 in
theorem utf_any (l : List UInt8) (w : World) (hl : l.length ≤ 1000000) :
    Calls Tryz.prog 37 #[.string (bs l)] w fun e w' => e = .returned (.bool (Lib.validD l)) ∧ w' = w := by
  have hz : (bs l).size = l.length := bs_size l
  go_enter Tryz.func37, Tryz.ntmps37
  go_wp2_with fail
  go_loopw [3] (fun i wr => ∃ (k : Nat), i = .int .i64 k ∧ k ≤ l.length ∧ Hid (Lib.validD l = Lib.validD (l.drop k)) ∧ Hid (wr = w)) (fun i _ => l.length - (intOf i).toNat)
  case atStart => exact ⟨0, rfl, Nat.zero_le _, Lib.hid rfl, Lib.hid rfl⟩
  case round =>
    obtain ⟨k, rfl, hk, HP, HK⟩ := hrel
    have i0 : (0 : Int) ≤ (k : Int) := by omega
    by_cases h1 : k < l.length
    · have i1 : (k : Int) < ((bs l).size : Int) := by omega
      obtain ⟨c, r, hcr⟩ : ∃ c r, l.drop k = c :: r := by
        cases h : l.drop k with
        | nil => have := congrArg List.length h; rw [List.length_drop] at this; simp at this; omega
        | cons c r => exact ⟨c, r, rfl⟩
      have hlen : r.length + 1 + k = l.length := by have := congrArg List.length hcr; rw [List.length_drop, List.length_cons] at this; omega
      have hex := bs_rest l k
      rw [hcr] at hex
      have hex2 := bs_drop l k
      rw [hcr] at hex2
      have HS := Lib.hid (step_any (bs (c :: r)) wr (by rw [bs_size, List.length_cons]; omega) (by rw [bs_size, List.length_cons]; omega))
      rw [dStep_bs] at HS
      have hget : ∀ h, ((bs l)[k]'h).toNat = c.toNat := fun h => by
        have e : (bs l).data.toList[k]? = some c := by rw [bs_list, ← List.head?_drop, hcr]; rfl
        obtain ⟨_, e2⟩ := List.getElem?_eq_some_iff.1 e
        rw [← e2]; rfl
      have hw1 := Lib.decodeL_width (c :: r)
      have hw2 := Lib.decodeL_le (c :: r) (by simp)
      rw [List.length_cons] at hw2
      have hP := HP.out
      rw [hcr, Lib.validD_step (c :: r) (by simp)] at hP
      obtain ⟨n, hn⟩ : ∃ n, n = (Lib.decodeL (c :: r)).2 := ⟨_, rfl⟩
      have hd : (c :: r).drop n = l.drop (k + n) := by rw [← hcr, List.drop_drop]
      rw [← hn] at hP HS hw1 hw2
      rw [hd] at hP
      have hc8 := UInt8.toNat_lt c
      by_cases hc : c.toNat < 128
      · have e := Lib.decodeL_ascii c r hc
        have hn1 : n = 1 := by rw [hn, e]
        have hE : Lib.validD l = Lib.validD (l.drop (k + 1)) := by
          rw [hP, e, if_neg (by intro hh; have := hh.1; simp only at this; omega), hn1]
        have HE := Lib.hid hE
        subst hn1
        have q1 : ¬ (128 : Int) ≤ (c.toNat : Int) := by omega
        clear hP hE e hn hd hcr HP
        go_wp2_with fail
        refine HS.out.mono ?_
        rintro e w1 ⟨rfl, rfl⟩
        go_wp2_with fail
        go_roundw
        case rel => exact ⟨k + 1, by go_num, by omega, HE, HK⟩
        case measure => simp [intOf]; omega
      · by_cases hn1 : n = 1
        · have hE : Lib.validD l = false := by
            have hf : ¬ fineR (c :: r) := fun h => (fine_wide (by omega)).1 h (by rw [← hn]; exact hn1)
            unfold fineR at hf
            rw [hP, hn, if_pos (by simpa using hf)]
          have HE := Lib.hid hE
          subst hn1
          have q1 : (128 : Int) ≤ (c.toNat : Int) := by omega
          clear hP hE hn hd hcr HP
          go_wp2_with fail
          refine HS.out.mono ?_
          rintro e w1 ⟨rfl, rfl⟩
          go_wp2_with fail
          go_ret
          exact ⟨by rw [HE.out]; rfl, HK.out⟩
        · have HE : Hid (Lib.validD l = Lib.validD (l.drop (k + n))) := Lib.hid (by rw [hP, if_neg (fun hh => hn1 hh.2)])
          have q1 : ((n : Int) == 1) = false := by simp; omega
          have HD := Lib.hid hd
          clear hP hn hd hcr HP
          go_wp2_with fail
          refine HS.out.mono ?_
          rintro e w1 ⟨rfl, rfl⟩
          go_wp2_with fail
          go_roundw
          case rel => exact ⟨k + n, by go_num, by omega, HE, HK⟩
          case measure => simp [intOf]; omega
    · obtain rfl : k = l.length := by omega
      have HE : Hid (Lib.validD l = true) := Lib.hid (by rw [HP.out, List.drop_length]; rfl)
      go_wp2_with fail
      go_ret
      exact ⟨by rw [HE.out]; rfl, HK.out⟩
theorem inB_drop (s : ByteArray) (l : List ByteArray) (k : Nat) (x : ByteArray) (h : l[k]? = some x) : inB s (l.drop k) = (decide (x = s) || inB s (l.drop (k + 1))) := by
  obtain ⟨hk, rfl⟩ := List.getElem?_eq_some_iff.1 h
  rw [List.drop_eq_getElem_cons hk, inB]
set_option maxRecDepth 100000 in
set_option maxHeartbeats 8000000 in
theorem in_any (l : List ByteArray) (s : ByteArray) (A : Option Addr) (c : Nat) (w : World) (hl : l.length ≤ 1000000) (hS : HoldsS w A l) :
    Calls Tryz.prog 83 #[.slice A l.length c, .string s] w fun e w' => e = .returned (.bool (inB s l)) ∧ w' = w := by
  have HS := Lib.hid hS
  clear hS
  go_enter Tryz.func83, Tryz.ntmps83
  go_wp2_with fail
  go_loopw [5] (fun i wr => ∃ (k : Nat), i = .int .i64 k ∧ k ≤ l.length ∧ Hid (inB s l = inB s (l.drop k)) ∧ Hid (wr = w)) (fun i _ => l.length - (intOf i).toNat)
  case atStart => exact ⟨0, rfl, Nat.zero_le _, Lib.hid rfl, Lib.hid rfl⟩
  case round =>
    obtain ⟨k, rfl, hk, HP, HK⟩ := hrel
    have i0 : (0 : Int) ≤ (k : Int) := by omega
    by_cases h1 : k < l.length
    · have i1 : (k : Int) < (l.length : Int) := by omega
      have gx := List.getElem?_eq_getElem (l := l) (i := k) h1
      have hst := inB_drop s l k _ gx
      generalize l[k]'h1 = x at *
      obtain ⟨b, off, rfl, e0⟩ := (show HoldsS wr A l by rw [HK.out]; exact HS.out) k x gx
      have hQ := HP.out.trans hst
      clear hst gx HP
      by_cases hxy : x = s
      · have HE : Hid (inB s l = true) := Lib.hid (by rw [hQ, hxy]; simp)
        have q := bytes_beq_yes hxy
        clear hQ hxy
        go_wp2_with fail
        go_ret
        exact ⟨by rw [HE.out]; rfl, HK.out⟩
      · have HE : Hid (inB s l = inB s (l.drop (k + 1))) := Lib.hid (by rw [hQ, decide_eq_false hxy]; rfl)
        have q := bytes_beq_no hxy
        clear hQ hxy
        go_wp2_with fail
        go_roundw
        case rel => exact ⟨k + 1, by go_num, by omega, HE, HK⟩
        case measure => simp [intOf]; omega
    · obtain rfl : k = l.length := by omega
      have HE : Hid (inB s l = false) := Lib.hid (by rw [HP.out, List.drop_length]; rfl)
      go_wp2_with fail
      go_ret
      exact ⟨by rw [HE.out]; rfl, HK.out⟩
theorem utf_any' (s : ByteArray) (w : World) (hl : s.size ≤ 1000000) :
    Calls Tryz.prog 37 #[.string s] w fun e w' => e = .returned (.bool (validB s)) ∧ w' = w := by
  have := utf_any s.data.toList w (by rw [Array.length_toList]; exact hl)
  rw [bs_of] at this
  exact this
set_option maxRecDepth 100000 in
set_option maxHeartbeats 8000000 in
theorem keys_any (l : List ByteArray) (A : Option Addr) (c : Nat) (w : World) (hl : l.length ≤ 1000000) (hc : l.length ≤ c) (hz : ∀ k ∈ l, k.size ≤ 1000000) (hS : HoldsS w A l) :
    Calls Tryz.prog 69 #[.slice A l.length c] w fun e w' => e = .returned (.bool (keysOk l)) ∧ Below w.heap.size w w' := by
  have HS := Lib.hid hS
  have HZ := Lib.hid hz
  clear hS hz
  go_enter Tryz.func69, Tryz.ntmps69
  go_wp2_with fail
  go_loopw [3] (fun i wr => ∃ (k : Nat), i = .int .i64 k ∧ k ≤ l.length ∧ Hid (keysOk l = keysGo (l.take k) (l.drop k)) ∧ Hid (Below w.heap.size w wr)) (fun i _ => l.length - (intOf i).toNat)
  case atStart => exact ⟨0, rfl, Nat.zero_le _, Lib.hid rfl, Lib.hid (Below.refl _ _)⟩
  case round =>
    obtain ⟨k, rfl, hk, HP, HK⟩ := hrel
    have i0 : (0 : Int) ≤ (k : Int) := by omega
    have i3 : (k : Int) ≤ (c : Int) := by omega
    by_cases h1 : k < l.length
    · have i1 : (k : Int) < (l.length : Int) := by omega
      have gx := List.getElem?_eq_getElem (l := l) (i := k) h1
      have hx := Lib.hid (HZ.out _ (List.getElem_mem h1))
      have hst := keysGo_step l k _ gx
      generalize l[k]'h1 = x at *
      have hh := HS.out.below HK.out
      have HHo := Lib.hid hh
      obtain ⟨b, off, rfl, e0⟩ := hh k x gx
      have HQ := Lib.hid (HP.out.trans hst)
      have HV := Lib.hid (fun W => utf_any' x W hx.out)
      have hlt : (l.take k).length = k := by rw [List.length_take]; omega
      have HI := Lib.hid (in_any (l.take k) x (some ⟨b, off, none⟩) c)
      rw [hlt] at HI
      clear hst HP gx hlt
      cases hv : validB x with
      | false =>
        have HE : Hid (keysOk l = false) := Lib.hid (by rw [HQ.out, hv]; rfl)
        rw [hv] at HV
        clear HQ
        go_wp2_with fail
        go_quiet ((go_at_call 37; refine Calls.quiet_of_same (HV.out _)))
        go_wp2_with fail
        go_ret
        exact ⟨by rw [HE.out]; rfl, below_drewN' HK.out _⟩
      | true =>
        rw [hv] at HV HQ
        cases hin : inB x (l.take k) with
        | true =>
          have HE : Hid (keysOk l = false) := Lib.hid (by rw [HQ.out, hin]; rfl)
          rw [hin] at HI
          clear HQ
          go_wp2_with fail
          go_quiet (first | (go_at_call 37; refine Calls.quiet_of_same (HV.out _)) | (go_at_call 83; refine Calls.quiet_of_same (HI.out _ (by omega) ((HoldsS.take' HHo.out k).below (below_drewN' (Below.refl _ _) _)))))
          go_wp2_with fail
          go_ret
          exact ⟨by rw [HE.out]; rfl, below_drewN' HK.out _⟩
        | false =>
          have HE : Hid (keysOk l = keysGo (l.take (k + 1)) (l.drop (k + 1))) := Lib.hid (by rw [HQ.out, hin]; rfl)
          rw [hin] at HI
          clear HQ
          go_wp2_with fail
          go_quiet (first | (go_at_call 37; refine Calls.quiet_of_same (HV.out _)) | (go_at_call 83; refine Calls.quiet_of_same (HI.out _ (by omega) ((HoldsS.take' HHo.out k).below (below_drewN' (Below.refl _ _) _)))))
          go_wp2_with fail
          go_roundw
          case rel => exact ⟨k + 1, by go_num, by omega, HE, Lib.hid (below_drewN' HK.out _)⟩
          case measure => simp [intOf]; omega
    · obtain rfl : k = l.length := by omega
      have HE : Hid (keysOk l = true) := Lib.hid (by rw [HP.out, List.drop_length]; rfl)
      go_wp2_with fail
      go_ret
      exact ⟨by rw [HE.out]; rfl, HK.out⟩
end Go.Proofs.YtamclieppbnpiaaGreatDoor
