/-
  A line of a head, a value's number: by the document's program text.
-/
import Derived.Test.YtjlehlkkgkplmaaDoorProg
import Derived.Test.YtjlehlkkgkplmaaDoorReg
import Derived.WalkKit
import Derived.WalkSpells
import Derived.WalkLawsBesides
import Derived.Lib.Hide
import Derived.Lib.MinMax
import Derived.Deep.QuietTactic
import Derived.BigQuiet
import Derived.OwnWalk
import Derived.Deep.AppendLies
import Derived.KernelRfl
import Derived.Test.YtjlehlkkgkplmaaDoorFrO
set_option linter.unusedSimpArgs false
set_option linter.unusedVariables false
namespace Go.Proofs.YtjlehlkkgkplmaaDoor
open Go Go.RowKit

theorem byte_at (s : ByteArray) (k : Nat) (h : k < s.size) : s.data.toList[k]? = some s[k] := by
  rw [List.getElem?_eq_getElem (show k < s.data.toList.length from h)]
  rfl
/-- What 'length' tells. -/
def lenV (v : List UInt8) : Int := match numOf v with
  | none => -1
  | some n => n
theorem lenGo_step {v : List UInt8} {k n : Nat} {c : UInt8} (h : v[k]? = some c) : lenGo n (v.drop k) = if c.toNat < 48 ∨ 57 < c.toNat ∨ 9000 < n then none else lenGo (10 * n + (c.toNat - 48)) (v.drop (k + 1)) := by
  obtain ⟨h1, h2⟩ := List.getElem?_eq_some_iff.1 h
  rw [List.drop_eq_getElem_cons h1, h2, lenGo]

set_option maxRecDepth 100000 in
set_option maxHeartbeats 8000000 in
theorem length_any (s : ByteArray) (w : World) (hs : s.size ≤ 1000000) :
    Calls Tryd.prog 32 #[.string s] w fun e w' => e = .returned (.int .i64 (lenV s.data.toList)) ∧ Below w.heap.size w w' := by
  have hz : s.data.toList.length = s.size := rfl
  go_enter Tryd.func32, Tryd.ntmps32
  go_wp2_with fail
  go_loopw [3, 4] (fun n i wr => ∃ (k m : Nat), i = .int .i64 k ∧ n = .int .i64 m ∧ k ≤ s.size ∧ m ≤ 100000 ∧ Hid (lenGo 0 s.data.toList = lenGo m (s.data.toList.drop k)) ∧ w = wr) (fun _ i _ => s.size - (intOf i).toNat)
  case atStart => exact ⟨0, 0, rfl, rfl, by omega, by omega, Lib.hid rfl, rfl⟩
  case round =>
    obtain ⟨k, m, rfl, rfl, hk, hm, HL, rfl⟩ := hrel
    have i0 : (0 : Int) ≤ (k : Int) := by omega
    have i3 : (0 : Int) ≤ (m : Int) := by omega
    by_cases hlt : k < s.size
    · have i1 : (k : Int) < (s.size : Int) := by omega
      have hstep := lenGo_step (n := m) (byte_at s k hlt)
      have hc256 := (s[k]).toNat_lt
      have HL2 := Lib.hid (HL.out.trans hstep)
      have hbad : (s[k].toNat < 48 ∨ 57 < s[k].toNat ∨ 9000 < m) → Hid (lenV s.data.toList = -1) := fun h => Lib.hid (by
        have h1 := HL2.out
        rw [if_pos h] at h1
        have h2 := lenOf_is s.data.toList
        unfold lenOf at h2
        rw [h1] at h2
        unfold lenV
        rw [← h2])
      clear hstep
      by_cases c1 : s[k].toNat < 48
      · have HB := hbad (.inl c1)
        have q1 : ((s[k].toNat : Int) < 48) := by omega
        clear hbad
        go_wp2_with fail
        go_ret
        rw [HB.out]
        exact ⟨rfl, Below.refl _ _⟩
      · have q1 : ¬ ((s[k].toNat : Int) < 48) := by omega
        by_cases c2 : 57 < s[k].toNat
        · have HB := hbad (.inr (.inl c2))
          have q2 : ((57 : Int) < s[k].toNat) := by omega
          clear hbad
          go_wp2_with fail
          go_ret
          rw [HB.out]
          exact ⟨rfl, Below.refl _ _⟩
        · have q2 : ¬ ((57 : Int) < s[k].toNat) := by omega
          by_cases c3 : 9000 < m
          · have HB := hbad (.inr (.inr c3))
            have q3 : ((9000 : Int) < m) := by omega
            clear hbad
            go_wp2_with fail
            go_ret
            rw [HB.out]
            exact ⟨rfl, Below.refl _ _⟩
          · have q3 : ¬ ((9000 : Int) < m) := by omega
            have HL3 : Hid (lenGo 0 s.data.toList = lenGo (10 * m + (s[k].toNat - 48)) (s.data.toList.drop (k + 1))) := Lib.hid (by
              rw [HL2.out, if_neg (by omega)])
            clear hbad
            go_wp2_with fail
            go_roundw
            case rel => exact ⟨k + 1, 10 * m + (s[k].toNat - 48), by go_num, by go_num, by omega, by omega, HL3, trivial⟩
            case measure => simp [intOf]; omega
    · obtain rfl : k = s.size := by omega
      have h1 : lenGo 0 s.data.toList = some m := by rw [HL.out, List.drop_of_length_le (by omega)]; rfl
      have h2 := lenOf_is s.data.toList
      unfold lenOf at h2
      rw [h1] at h2
      simp only at h2
      by_cases c3 : 9000 < m
      · have q3 : ((9000 : Int) < m) := by omega
        have HB : Hid (lenV s.data.toList = -1) := Lib.hid (by
          rw [if_pos (.inl c3)] at h2
          unfold lenV
          rw [← h2])
        clear h1 h2
        go_wp2_with fail
        go_ret
        rw [HB.out]
        exact ⟨rfl, Below.refl _ _⟩
      · have q3 : ¬ ((9000 : Int) < m) := by omega
        obtain ⟨D, hD⟩ : ∃ D : ByteArray, D = ⟨(digs m).toArray⟩ := ⟨_, rfl⟩
        have hDg := Digs_any m w (by omega)
        rw [← hD] at hDg
        have HDg := Lib.hid hDg
        by_cases hv : D = s
        · have q4 := bytes_beq_yes hv
          have HB : Hid (lenV s.data.toList = m) := Lib.hid (by
            rw [if_neg (by rintro (h | h); omega; exact h (by rw [← hv, hD]))] at h2
            unfold lenV
            rw [← h2])
          clear h1 h2 hD hDg hv
          go_wp2_with fail
          refine HDg.out.mono ?_
          rintro e w1 ⟨rfl, hb1⟩
          have B1 := Lib.hid hb1
          clear hb1
          go_wp2_with fail
          go_ret
          rw [HB.out]
          exact ⟨rfl, B1.out⟩
        · have q4 := bytes_beq_no hv
          have HB : Hid (lenV s.data.toList = -1) := Lib.hid (by
            rw [if_pos (.inr (fun e => hv (by rw [hD]; exact text_inj (by rw [← e]))))] at h2
            unfold lenV
            rw [← h2])
          clear h1 h2 hD hDg hv
          go_wp2_with fail
          refine HDg.out.mono ?_
          rintro e w1 ⟨rfl, hb1⟩
          have B1 := Lib.hid hb1
          clear hb1
          go_wp2_with fail
          go_ret
          rw [HB.out]
          exact ⟨rfl, B1.out⟩
/-- What 'line' tells. -/
def lineV (s : ByteArray) : ByteArray × ByteArray × Bool := match lineOf s.data.toList with
  | none => (⟨#[]⟩, ⟨#[]⟩, false)
  | some (n, v) => (⟨n.toArray⟩, ⟨v.toArray⟩, true)
theorem lineOf_at {l : List UInt8} {k : Nat} (h : (l.takeWhile isNameB).length = k) : lineOf l = if k = 0 ∨ (l.drop k).take 2 ≠ [58, 32] ∨ (l.drop (k + 2)).all isValB = false then none else some (l.take k, l.drop (k + 2)) := by
  unfold lineOf
  rw [h]
theorem takeWhile_whole {l : List UInt8} (h : l.all isNameB = true) : (l.takeWhile isNameB).length = l.length := by
  induction l with
  | nil => rfl
  | cons c l ih =>
    simp only [List.all_cons, Bool.and_eq_true] at h
    rw [List.takeWhile_cons_of_pos h.1, List.length_cons, List.length_cons, ih h.2]
theorem name_ways (c : Nat) (u : UInt8) (hu : u.toNat = c) : (isNameB u = true ∧ ((97 ≤ c ∧ c ≤ 122) ∨ (c < 97 ∧ 65 ≤ c ∧ c ≤ 90) ∨ (c < 65 ∧ c = 45))) ∨ (isNameB u = false ∧ ((97 ≤ c ∧ 122 < c) ∨ (c < 97 ∧ 65 ≤ c ∧ 90 < c) ∨ (c < 65 ∧ c ≠ 45))) := by
  have h45 : (u == 45) = decide (c = 45) := by
    rw [Bool.eq_iff_iff]
    simp only [beq_iff_eq, decide_eq_true_eq]
    constructor
    · intro h; rw [← hu, h]; rfl
    · intro h; exact UInt8.toNat_inj.1 (by rw [hu, h]; rfl)
  unfold isNameB
  rw [h45, hu]
  by_cases h1 : 97 ≤ c
  · by_cases h2 : c ≤ 122
    · exact .inl ⟨by simp [h1, h2], .inl ⟨h1, h2⟩⟩
    · exact .inr ⟨by simp; omega, .inl ⟨h1, by omega⟩⟩
  · by_cases h2 : 65 ≤ c
    · by_cases h3 : c ≤ 90
      · exact .inl ⟨by simp; omega, .inr (.inl ⟨by omega, h2, h3⟩)⟩
      · exact .inr ⟨by simp; omega, .inr (.inl ⟨by omega, h2, by omega⟩)⟩
    · by_cases h3 : c = 45
      · exact .inl ⟨by simp; omega, .inr (.inr ⟨by omega, h3⟩)⟩
      · exact .inr ⟨by simp; omega, .inr (.inr ⟨by omega, h3⟩)⟩

set_option maxRecDepth 100000 in
set_option maxHeartbeats 16000000 in
theorem line_any (s : ByteArray) (w : World) (hs : s.size ≤ 1000000) :
    Calls Tryd.prog 31 #[.string s] w fun e w' => e = .returned (.tuple #[.string (lineV s).1, .string (lineV s).2.1, .bool (lineV s).2.2]) ∧ Below w.heap.size w w' := by
  have hz : s.data.toList.length = s.size := rfl
  go_enter Tryd.func31, Tryd.ntmps31
  go_wp2_with fail
  go_loopw [5] (fun i wr => ∃ (k : Nat), i = .int .i64 k ∧ k ≤ s.size ∧ Hid ((s.data.toList.take k).all isNameB = true) ∧ w = wr) (fun i _ => s.size - (intOf i).toNat)
  case atStart => exact ⟨0, rfl, by omega, Lib.hid rfl, rfl⟩
  case round =>
    obtain ⟨k, rfl, hk, HA, rfl⟩ := hrel
    have i0 : (0 : Int) ≤ (k : Int) := by omega
    by_cases hlt : k < s.size
    · have i1 : (k : Int) < (s.size : Int) := by omega
      have hat := byte_at s k hlt
      rcases name_ways s[k].toNat s[k] rfl with ⟨hnm, hw⟩ | ⟨hnm, hw⟩
      · have HA2 : Hid ((s.data.toList.take (k + 1)).all isNameB = true) := Lib.hid (by
          rw [List.take_add_one, hat, List.all_append, HA.out]
          simp [hnm])
        clear hnm hat
        rcases hw with ⟨c1, c2⟩ | ⟨c1, c2, c3⟩ | ⟨c1, c2⟩
        · have r1 : (97 : Int) ≤ (s[k].toNat : Int) := by omega
          have r2 : (s[k].toNat : Int) ≤ 122 := by omega
          clear c1 c2
          go_wp2_with fail
          go_roundw
          case rel => exact ⟨k + 1, by go_num, by omega, HA2, trivial⟩
          case measure => simp [intOf]; omega
        · have r1 : ¬ (97 : Int) ≤ (s[k].toNat : Int) := by omega
          have r2 : (65 : Int) ≤ (s[k].toNat : Int) := by omega
          have r3 : (s[k].toNat : Int) ≤ 90 := by omega
          clear c1 c2 c3
          go_wp2_with fail
          go_roundw
          case rel => exact ⟨k + 1, by go_num, by omega, HA2, trivial⟩
          case measure => simp [intOf]; omega
        · have r1 : ¬ (97 : Int) ≤ (s[k].toNat : Int) := by omega
          have r2 : ¬ (65 : Int) ≤ (s[k].toNat : Int) := by omega
          have r3 : ((s[k].toNat : Int) == 45) = true := by rw [c2]; rfl
          clear c1 c2
          go_wp2_with fail
          go_roundw
          case rel => exact ⟨k + 1, by go_num, by omega, HA2, trivial⟩
          case measure => simp [intOf]; omega
      · have HLi := Lib.hid (lineOf_at (takeWhile_exact s.data.toList k s[k] HA.out hat hnm))
        clear hnm hat HA
        have hq : ((97 : Int) ≤ (s[k].toNat : Int) ∧ ¬ (s[k].toNat : Int) ≤ 122 ∧ (65 : Int) ≤ (s[k].toNat : Int) ∧ ¬ (s[k].toNat : Int) ≤ 90 ∧ ((s[k].toNat : Int) == 45) = false) ∨ (¬ (97 : Int) ≤ (s[k].toNat : Int) ∧ (s[k].toNat : Int) ≤ 122 ∧ (65 : Int) ≤ (s[k].toNat : Int) ∧ ¬ (s[k].toNat : Int) ≤ 90 ∧ ((s[k].toNat : Int) == 45) = false) ∨
            (¬ (97 : Int) ≤ (s[k].toNat : Int) ∧ (s[k].toNat : Int) ≤ 122 ∧ ¬ (65 : Int) ≤ (s[k].toNat : Int) ∧ (s[k].toNat : Int) ≤ 90 ∧ ((s[k].toNat : Int) == 45) = false) := by
          have h45 : s[k].toNat ≠ 45 → ((s[k].toNat : Int) == 45) = false := fun h => by simpa using (fun e : (s[k].toNat : Int) = 45 => h (by omega))
          rcases hw with ⟨c1, c2⟩ | ⟨c1, c2, c3⟩ | ⟨c1, c2⟩
          · exact .inl ⟨by omega, by omega, by omega, by omega, h45 (by omega)⟩
          · exact .inr (.inl ⟨by omega, by omega, by omega, by omega, h45 (by omega)⟩)
          · exact .inr (.inr ⟨by omega, by omega, by omega, by omega, h45 c2⟩)
        clear hw
        rcases hq with ⟨r1, r2, r3, r4, r5⟩ | ⟨r1, r2, r3, r4, r5⟩ | ⟨r1, r2, r3, r4, r5⟩
        all_goals (
          by_cases hk0 : k = 0
          · have q4 : ((k : Int) == 0) = true := by rw [hk0]; rfl
            have HR : Hid (lineV s = (⟨#[]⟩, ⟨#[]⟩, false)) := Lib.hid (by
              unfold lineV
              rw [HLi.out, if_pos (.inl hk0)])
            clear hk0
            go_wp2_with fail
            refine bodyPost_ret (by simp [results, Tryd.results31, go_sem]; rfl) rfl ?_
            rw [HR.out]
            exact ⟨rfl, Below.refl _ _⟩
          · have q4 : ((k : Int) == 0) = false := by simpa using (fun e : (k : Int) = 0 => hk0 (by omega))
            by_cases hk2 : s.size < k + 2
            · have q5 : (s.size : Int) < (k : Int) + 2 := by omega
              have HR : Hid (lineV s = (⟨#[]⟩, ⟨#[]⟩, false)) := Lib.hid (by
                unfold lineV
                rw [HLi.out, if_pos (.inr (.inl (fun e => by
                  have := congrArg List.length e
                  rw [List.length_take, List.length_drop, hz] at this
                  simp at this
                  omega)))])
              clear hk0
              go_wp2_with fail
              refine bodyPost_ret (by simp [results, Tryd.results31, go_sem]; rfl) rfl ?_
              rw [HR.out]
              exact ⟨rfl, Below.refl _ _⟩
            · have q5 : ¬ (s.size : Int) < (k : Int) + 2 := by omega
              have q6 : (k : Int) + 2 ≤ (s.size : Int) := by omega
              have hx : (s.extract k (k + 2)).data.toList = (s.data.toList.drop k).take 2 := by rw [extract_data _ _ _ (by omega), Nat.add_sub_cancel_left]
              by_cases hsep : (s.extract k (k + 2)).data.toList = [58, 32]
              · have q7 := beq_list_yes hsep
                rw [hx] at hsep
                have HSep := Lib.hid hsep
                have HK0 := Lib.hid hk0
                clear hk0 hx hsep
                go_wp2_with fail
                go_loopw [6] (fun i wr => ∃ (j : Nat), i = .int .i64 j ∧ k + 2 ≤ j ∧ j ≤ s.size ∧ Hid (((s.data.toList.drop (k + 2)).take (j - (k + 2))).all isValB = true) ∧ w = wr) (fun i _ => s.size - (intOf i).toNat)
                case atStart => exact ⟨k + 2, by go_num, by omega, by omega, Lib.hid (by rw [Nat.sub_self]; rfl), rfl⟩
                case round =>
                  obtain ⟨j, rfl, hj1, hj2, HV, rfl⟩ := hrel
                  have j0 : (0 : Int) ≤ (j : Int) := by omega
                  by_cases hjl : j < s.size
                  · have j1 : (j : Int) < (s.size : Int) := by omega
                    have hat : (s.data.toList.drop (k + 2))[j - (k + 2)]? = some s[j] := by rw [List.getElem?_drop, show k + 2 + (j - (k + 2)) = j by omega]; exact byte_at s j hjl
                    have hbadv : isValB s[j] = false → Hid (lineV s = (⟨#[]⟩, ⟨#[]⟩, false)) := fun hb => Lib.hid (by
                      unfold lineV
                      rw [HLi.out, if_pos (.inr (.inr (by
                        rw [Bool.eq_false_iff]
                        intro hall
                        have := List.all_eq_true.1 hall s[j] (List.mem_of_getElem? hat)
                        rw [hb] at this
                        cases this)))])
                    by_cases c1 : s[j].toNat < 32
                    · have r1 : (s[j].toNat : Int) < 32 := by omega
                      have HR := hbadv (by unfold isValB; rw [decide_eq_false (by omega)]; rfl)
                      clear hbadv hat
                      go_wp2_with fail
                      refine bodyPost_ret (by simp [results, Tryd.results31, go_sem]; rfl) rfl ?_
                      rw [HR.out]
                      exact ⟨rfl, Below.refl _ _⟩
                    · have r1 : ¬ (s[j].toNat : Int) < 32 := by omega
                      by_cases c2 : 126 < s[j].toNat
                      · have r2 : (126 : Int) < (s[j].toNat : Int) := by omega
                        have HR := hbadv (by unfold isValB; rw [decide_eq_false (p := s[j].toNat ≤ 126) (by omega), Bool.and_false])
                        clear hbadv hat
                        go_wp2_with fail
                        refine bodyPost_ret (by simp [results, Tryd.results31, go_sem]; rfl) rfl ?_
                        rw [HR.out]
                        exact ⟨rfl, Below.refl _ _⟩
                      · have r2 : ¬ (126 : Int) < (s[j].toNat : Int) := by omega
                        have HV2 : Hid (((s.data.toList.drop (k + 2)).take (j + 1 - (k + 2))).all isValB = true) := Lib.hid (by
                          rw [show j + 1 - (k + 2) = j - (k + 2) + 1 by omega, List.take_add_one, hat, List.all_append, HV.out]
                          unfold isValB
                          simp
                          omega)
                        clear hbadv hat
                        go_wp2_with fail
                        go_roundw
                        case rel => exact ⟨j + 1, by go_num, by omega, by omega, HV2, trivial⟩
                        case measure => simp [intOf]; omega
                  · obtain rfl : j = s.size := by omega
                    have HR : Hid (lineV s = (s.extract 0 k, s.extract (k + 2) s.size, true)) := Lib.hid (by
                      have hall := HV.out
                      rw [List.take_of_length_le (by rw [List.length_drop, hz]; omega)] at hall
                      unfold lineV
                      rw [HLi.out, if_neg (by
                        rintro (h | h | h)
                        · exact HK0.out h
                        · exact h HSep.out
                        · rw [hall] at h; cases h)]
                      have e1 : (⟨(s.data.toList.take k).toArray⟩ : ByteArray) = s.extract 0 k := text_inj (by rw [extract_data _ _ _ hk]; simp)
                      have e2 : (⟨(s.data.toList.drop (k + 2)).toArray⟩ : ByteArray) = s.extract (k + 2) s.size := text_inj (by rw [extract_data _ _ _ (Nat.le_refl _), List.take_of_length_le (by rw [List.length_drop, hz]; omega)])
                      simp only [e1, e2])
                    go_wp2_with fail
                    go_region
                    go_wp2_with fail
                    refine bodyPost_ret (by simp [results, Tryd.results31, go_sem]; rfl) rfl ?_
                    rw [HR.out]
                    exact ⟨rfl, (Below.refl _ _).drew⟩
              · have q7 := beq_list_no hsep
                have HR : Hid (lineV s = (⟨#[]⟩, ⟨#[]⟩, false)) := Lib.hid (by
                  unfold lineV
                  rw [HLi.out, if_pos (.inr (.inl (by rw [← hx]; exact hsep)))])
                clear hk0 hx hsep
                go_wp2_with fail
                refine bodyPost_ret (by simp [results, Tryd.results31, go_sem]; rfl) rfl ?_
                rw [HR.out]
                exact ⟨rfl, Below.refl _ _⟩)
    · obtain rfl : k = s.size := by omega
      have hall := HA.out
      rw [List.take_of_length_le (by omega)] at hall
      have HLi := Lib.hid (lineOf_at ((takeWhile_whole hall).trans hz))
      clear HA hall
      have HR : Hid (lineV s = (⟨#[]⟩, ⟨#[]⟩, false)) := Lib.hid (by
        unfold lineV
        rw [HLi.out, if_pos (.inr (.inl (fun e => by
          have := congrArg List.length e
          rw [List.length_take, List.length_drop, hz] at this
          simp at this)))])
      by_cases h0 : s.size = 0
      · have q4 : ((s.size : Int) == 0) = true := by rw [h0]; rfl
        clear h0
        go_wp2_with fail
        refine bodyPost_ret (by simp [results, Tryd.results31, go_sem]; rfl) rfl ?_
        rw [HR.out]
        exact ⟨rfl, Below.refl _ _⟩
      · have q4 : ((s.size : Int) == 0) = false := by simpa using (fun e : (s.size : Int) = 0 => h0 (by omega))
        clear h0
        go_wp2_with fail
        refine bodyPost_ret (by simp [results, Tryd.results31, go_sem]; rfl) rfl ?_
        rw [HR.out]
        exact ⟨rfl, Below.refl _ _⟩
end Go.Proofs.YtjlehlkkgkplmaaDoor
