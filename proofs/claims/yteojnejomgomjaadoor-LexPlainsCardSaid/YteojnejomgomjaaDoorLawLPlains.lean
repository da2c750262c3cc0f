/-
  The law LexPlains: true.
-/
import Derived.Test.YteojnejomgomjaaDoorProg
import Derived.Test.YteojnejomgomjaaDoorReg
import Derived.WalkKit
import Derived.WalkSpells
import Derived.WalkLawsBesides
import Derived.Lib.Hide
import Derived.Lib.MinMax
import Derived.Deep.QuietTactic
import Derived.BigQuiet
import Derived.OwnWalk
import Derived.Deep.AppendLies
import Derived.KernelRfl
import Derived.Test.YteojnejomgomjaaDoorLxLo
set_option linter.unusedSimpArgs false
set_option linter.unusedVariables false
namespace Go.Proofs.YteojnejomgomjaaDoor
open Go.RowKit Go.Maps

theorem plain_plain (l : List Tok) : plainT (plainT l) = plainT l := by unfold plainT; rw [List.filter_filter]; simp
theorem kind_ways (x : Tok) : (isPlain x = false ∧ (x.kind == 1) = true) ∨ (isPlain x = false ∧ (x.kind == 1) = false ∧ (x.kind == 2) = true) ∨ (isPlain x = true ∧ (x.kind == 1) = false ∧ (x.kind == 2) = false) := by
  unfold isPlain
  by_cases h1 : x.kind = 1
  · exact .inl ⟨by simp [h1], by simp [h1]⟩
  · by_cases h2 : x.kind = 2
    · exact .inr (.inl ⟨by simp [h2], by simp [h1], by simp [h2]⟩)
    · exact .inr (.inr ⟨by simp [h1, h2], by simp [h1], by simp [h2]⟩)

set_option maxRecDepth 100000 in
set_option maxHeartbeats 8000000 in
theorem lexPlains_any (l0 : List Tok) (A : Option Addr) (c : Nat) (w : World) (hA : HoldsT w A l0) (hl : l0.length ≤ maxLen)
    (h1 : ∀ (k : Nat) (x : Tok), l0[k]? = some x → x.text.size ≤ maxLen ∧ x.glyph.size ≤ maxLen) (hT : Tabs w) :
    Calls Tryd.prog 6 #[.slice A l0.length c] w fun e w' => e = .returned (.bool true) ∧ Below w.heap.size w w' := by
  have HS := Lib.hid (shown_any w hT)
  have HF := Lib.hid (fun u hu => few_any A c l0 u hl h1 hu)
  clear h1
  go_enter Tryd.func6, Tryd.ntmps6
  go_wp2_with fail
  refine HS.out.mono ?_
  rintro e w1 ⟨rfl, hb1⟩
  have hA1 := hA.below hb1
  have B1 := Lib.hid hb1
  clear HS hA hb1
  go_wp2_with fail
  refine (HF.out _ hA1).mono ?_
  rintro e w2 ⟨A2, c2, rfl, hA2, q2, hb2⟩
  have B2 := Lib.hid (B1.out.trans (hb2.mono B1.out.size))
  have ll := few_len l0
  clear HF hA1 hb2 B1 hl
  generalize few l0 = l at *
  have HPl : Hid (∀ W, HoldsT W A2 l → Calls Tryd.prog 16 #[.slice A2 l.length c2] W fun e w' => GivesT (plainT l) e W w') := Lib.hid (fun W h => PlainC l A2 c2 W (by omega) h)
  have lp := plain_len l
  have HPP : Hid (∀ W P pc, HoldsT W P (plainT l) → Calls Tryd.prog 16 #[.slice P (plainT l).length pc] W fun e w' => GivesT (plainT l) e W w') := Lib.hid (fun W P pc h => by
    have := PlainC (plainT l) P pc W (by omega) h
    rwa [plain_plain] at this)
  have HSp : Hid (∀ W P Q pc qc, HoldsT W P (plainT l) → HoldsT W Q (plainT l) → Calls Tryd.prog 14 #[.slice P (plainT l).length pc, .slice Q (plainT l).length qc] W fun e w' => e = .returned (.bool true) ∧ Below W.heap.size W w') := Lib.hid (fun W P Q pc qc hp hq => by
    have := Same_any (plainT l) (plainT l) P Q pc qc W (by omega) (by omega) hp hq
    simpa using this)
  have HPT : Hid (∀ k x, l[k]? = some x → (plainT (l.take (k + 1))).length = (plainT (l.take k)).length + (if isPlain x = true then 1 else 0)) := Lib.hid (fun k x h => by
    rw [plainT_snoc h, List.length_append]
    split <;> rfl)
  have HPE : Hid ((plainT (l.take l.length)).length = (plainT l).length) := Lib.hid (by rw [List.take_of_length_le (Nat.le_refl _)])
  have HP0 : Hid ((plainT (l.take 0)).length = 0) := Lib.hid (by simp [plainT])
  have HH := Lib.hid hA2
  clear hA2
  go_wp2_with fail
  refine (HPl.out _ HH.out).mono ?_
  rintro e w3 ⟨P3, c3, rfl, hP3, q3, hb3⟩
  have hA3 := HH.out.below hb3
  have B3 := Lib.hid (B2.out.trans (hb3.mono B2.out.size))
  have HP3 := Lib.hid hP3
  have HA3 := Lib.hid hA3
  clear HPl HH hb3 B2 hP3 hA3
  generalize plainT l = pl at *
  go_wp2_with fail
  go_loop [5, 6] (fun n i => ∃ (k m : Nat), i = .int .i64 k ∧ n = .int .i64 m ∧ k ≤ l.length ∧ m ≤ k ∧ Hid (m + (plainT (l.take k)).length = k)) (fun _ i => l.length - (intOf i).toNat)
  case atStart => exact ⟨0, 0, rfl, rfl, Nat.zero_le _, Nat.le_refl _, Lib.hid (by rw [HP0.out])⟩
  case round =>
    obtain ⟨k, m, rfl, rfl, hk, hm, HM⟩ := hrel
    by_cases hlt : k < l.length
    · have ga := List.getElem?_eq_getElem (l := l) (i := k) hlt
      generalize l[k]'hlt = x at *
      have hpt := HPT.out k x ga
      obtain ⟨b, off, rfl, d0, d1, d2⟩ := HA3.out k x ga
      rcases kind_ways x with ⟨hp, q1⟩ | ⟨hp, q1, q2⟩ | ⟨hp, q1, q2⟩
      · have HM2 : Hid ((m + 1) + (plainT (l.take (k + 1))).length = k + 1) := Lib.hid (by rw [hpt, hp, if_neg (by simp)]; have := HM.out; omega)
        clear hp hpt ga
        go_wp2_with fail
        go_round
        case rel => exact ⟨k + 1, m + 1, by go_num, by go_num, by omega, by omega, HM2⟩
        case measure => simp [intOf]; omega
      · have HM2 : Hid ((m + 1) + (plainT (l.take (k + 1))).length = k + 1) := Lib.hid (by rw [hpt, hp, if_neg (by simp)]; have := HM.out; omega)
        clear hp hpt ga
        go_wp2_with fail
        go_round
        case rel => exact ⟨k + 1, m + 1, by go_num, by go_num, by omega, by omega, HM2⟩
        case measure => simp [intOf]; omega
      · have HM2 : Hid (m + (plainT (l.take (k + 1))).length = k + 1) := Lib.hid (by rw [hpt, hp, if_pos rfl]; have := HM.out; omega)
        clear hp hpt ga
        go_wp2_with fail
        go_round
        case rel => exact ⟨k + 1, m, by go_num, by go_num, by omega, by omega, HM2⟩
        case measure => simp [intOf]; omega
    · obtain rfl : k = l.length := by omega
      have hsum : pl.length + m = l.length := by have h1 := HM.out; have h2 := HPE.out; omega
      have qe : ((pl.length : Int) + (m : Int) == (l.length : Int)) = true := by simp; omega
      have HPw := Lib.hid (HPP.out _ _ c3 HP3.out)
      clear hsum HPT HPE HP0 HM
      go_wp2_with fail
      refine HPw.out.mono ?_
      rintro e w4 ⟨P4, c4, rfl, hP4, _, hb4⟩
      have HSw := Lib.hid (HSp.out _ P4 P3 c4 c3 hP4 (HP3.out.below hb4))
      have B4 := Lib.hid (B3.out.trans (hb4.mono B3.out.size))
      clear HPw HPP HSp hP4 hb4
      go_wp2_with fail
      refine HSw.out.mono ?_
      rintro e w5 ⟨rfl, hb5⟩
      have B5 := Lib.hid (B4.out.trans (hb5.mono B4.out.size))
      go_wp2_with fail
      go_ret
      exact ⟨rfl, B5.out⟩
end Go.Proofs.YteojnejomgomjaaDoor
