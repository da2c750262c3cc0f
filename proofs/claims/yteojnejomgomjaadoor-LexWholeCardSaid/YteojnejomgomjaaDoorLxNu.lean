/-
  The walk of a lexer's step: numbers.
-/
import Derived.Test.YteojnejomgomjaaDoorProg
import Derived.Test.YteojnejomgomjaaDoorReg
import Derived.WalkKit
import Derived.WalkSpells
import Derived.WalkLawsBesides
import Derived.Lib.Hide
import Derived.Lib.MinMax
import Derived.Deep.QuietTactic
import Derived.BigQuiet
import Derived.OwnWalk
import Derived.Deep.AppendLies
import Derived.KernelRfl
import Derived.Test.YteojnejomgomjaaDoorLxB
import Derived.Test.YteojnejomgomjaaDoorLxNp
set_option linter.unusedSimpArgs false
set_option linter.unusedVariables false
namespace Go.Proofs.YteojnejomgomjaaDoor
open Go.RowKit Go.Maps

theorem toList_48 : (⟨#[48]⟩ : ByteArray).toList = [48] := by rw [ByteArray.toList_eq]

set_option maxRecDepth 100000 in
set_option maxHeartbeats 8000000 in
theorem number_any (X : Nat) (s : ByteArray) (w : World) (hL : LexAt w X s) (hs : s.size ≤ 1000000) :
    Calls Tryd.prog 27 #[.pointer (some ⟨X, 0, none⟩)] w fun e w' => e = .returned (tNumber s).val ∧ Below w.heap.size w w' := by
  have hB0 := below_new w (.cells zTok tK)
  have hX0 := heap_alloc_new w (.cells zTok tK)
  have hz0 : (w.alloc (.cells zTok tK)).heap.size = w.heap.size + 1 := by simp
  have hL0 := hL.below hB0
  have hg3 := gFirst_glyph s
  have HW := Lib.hid (class_any (gFirst s).1 (w.alloc (.cells zTok tK)) (by unfold maxLen; omega))
  have HM : Hid (numMinus s = if gClass (gFirst s).1 = 5 then (gFirst s).2 else 0) := Lib.hid rfl
  have hml := numMinus_le s
  have hnl := dDigits_le s hml
  have HE : Hid (tNumber s = if numMinus s = 0 ∧ dDigits (s.extract (numMinus s) s.size) = 0 then ⟨0, noText, noText⟩ else dNumber s (numMinus s)) := Lib.hid rfl
  have HC : Hid (∀ W : World, LexAt W X s → W.cell? ⟨X, 0, none⟩ = some (.string s) ∧ W.cell? ⟨X, 1, none⟩ = some (.string (gFirst s).1) ∧ W.cell? ⟨X, 2, none⟩ = some (.int .i64 ((gFirst s).2 : Int))) := Lib.hid (fun W h => h.cells)
  obtain ⟨c0, c1, c2⟩ := hL0.cells
  have HWD := Lib.hid (fun W b (h : W.cell? ⟨b, 0, none⟩ = some (.string (s.extract (numMinus s) s.size))) => whileDigit_any (s.extract (numMinus s) s.size) b 0 W (by rw [ByteArray.size_extract]; omega) h)
  have HD : Hid (dNumber s (numMinus s) = if 18 < dDigits (s.extract (numMinus s) s.size) ∨ dDigits (s.extract (numMinus s) s.size) = 0 then ⟨10, s.extract 0 (numMinus s + dDigits (s.extract (numMinus s) s.size)), noText⟩ else
      ⟨3, s.extract 0 (numMinus s + dDigits (s.extract (numMinus s) s.size)), if 0 < numMinus s ∧ (⟨(noughts (s.extract (numMinus s) (numMinus s + dDigits (s.extract (numMinus s) s.size))).data.toList).toArray⟩ : ByteArray) ≠ ⟨#[48]⟩ then ⟨#[194, 175]⟩ ++ (⟨(noughts (s.extract (numMinus s) (numMinus s + dDigits (s.extract (numMinus s) s.size))).data.toList).toArray⟩ : ByteArray) else (⟨(noughts (s.extract (numMinus s) (numMinus s + dDigits (s.extract (numMinus s) s.size))).data.toList).toArray⟩ : ByteArray)⟩) := Lib.hid rfl
  have HT := Lib.hid (fun kd g n W (h : W.cell? ⟨X, 0, none⟩ = some (.string s)) (hn : n ≤ s.size) => token_any X s g kd n W h hn hs)
  have hgp : gClass (gFirst s).1 = 5 → 0 < (gFirst s).2 := fun h => gFirst_pos (by rw [h]; decide)
  generalize (gFirst s).1 = g at *
  generalize gn : (gFirst s).2 = gnn at *
  generalize gClass g = cl at *
  generalize numMinus s = m at *
  generalize dDigits (s.extract m s.size) = n at *
  have HL := Lib.hid hL0
  clear hL0 hL gn
  have key : ∀ (b5 : Bool), (cl == 5) = b5 → m = (if b5 then gnn else 0) → (b5 = true → m ≠ 0) → Calls Tryd.prog 27 #[.pointer (some ⟨X, 0, none⟩)] w fun e w' => e = .returned (tNumber s).val ∧ Below w.heap.size w w' := by
    intro b5 hb5 hm hpos
    have HMm := Lib.hid hm
    clear hm
    cases b5 with
    | true =>
      simp only [if_true] at HMm
      obtain rfl := HMm.out
      have hm0 : ¬ m = 0 := hpos rfl
      go_enter Tryd.func27, Tryd.ntmps27
      go_wp2_with fail
      refine HW.out.mono ?_
      rintro e w1 ⟨rfl, hb1⟩
      have hL1 := HL.out.below hb1
      obtain ⟨d0, d1, d2⟩ := HC.out _ hL1
      have hB1 : Below w.heap.size w w1 := hB0.trans (hb1.mono (by omega))
      have hX1 := (hb1.block w.heap.size (by omega)).trans hX0
      clear c0 c1 c2
      go_wp2_with fail
      have hbA := below_new w1 (.cells #[.string (s.extract m s.size)] 53)
      have cA : (w1.alloc (.cells #[.string (s.extract m s.size)] 53)).cell? ⟨w1.heap.size, 0, none⟩ = some (.string (s.extract m s.size)) := by simp
      have HWA := Lib.hid (HWD.out _ _ cA)
      refine HWA.out.mono ?_
      rintro e w2 ⟨rfl, hb2⟩
      have hbB : Below w1.heap.size w1 w2 := hbA.trans (hb2.mono (by simp))
      have hL2 := hL1.below hbB
      obtain ⟨f0, _, _⟩ := HC.out _ hL2
      have hB2 : Below w.heap.size w w2 := hB1.trans (hbB.mono hB1.size)
      have hX2 := (hbB.block w.heap.size (Array.getElem?_eq_some_iff.1 hX1).1).trans hX1
      have x0_hX2 : w2.cell? ⟨w.heap.size, 0, none⟩ = some (.int .i64 0) := by simp [World.cell?, hX2]
      have x1_hX2 : w2.cell? ⟨w.heap.size, 1, none⟩ = some (.string ⟨#[]⟩) := by simp [World.cell?, hX2]
      have x2_hX2 : w2.cell? ⟨w.heap.size, 2, none⟩ = some (.string ⟨#[]⟩) := by simp [World.cell?, hX2]
      have z_hX2 : ∀ j, w2.frozen? ⟨w.heap.size, j, none⟩ = false := fun j => frozen_of_row w2 _ j _ _ hX2
      have hX2s : X < w2.heap.size := hL2.lt
      clear hbA cA HWA hb2 hbB hL1 d0 d1 d2 hb1 hX1 HW HWD hX0 HC HL
      by_cases hn : 18 < n ∨ n = 0
      · rw [if_pos hn] at HD
        have HT2 := Lib.hid (HT.out 10 ByteArray.empty (m + n) w2 f0 hnl)
        have HE2 : Hid (tNumber s = ⟨10, s.extract 0 (m + n), noText⟩) := Lib.hid (by rw [HE.out, if_neg (fun h => hm0 h.1), HD.out])
        clear HE HD HT hX2s
        rcases hn with hn | hn
        all_goals
          try subst hn
          go_wp2_with fail
          refine HT2.out.mono ?_
          rintro e w3 ⟨rfl, hb3⟩
          have hB3 : Below w.heap.size w w3 := hB2.trans (hb3.mono hB2.size)
          have hX3 := (hb3.block w.heap.size (Array.getElem?_eq_some_iff.1 hX2).1).trans hX2
          have x0_hX3 : w3.cell? ⟨w.heap.size, 0, none⟩ = some (.int .i64 0) := by simp [World.cell?, hX3]
          have x1_hX3 : w3.cell? ⟨w.heap.size, 1, none⟩ = some (.string ⟨#[]⟩) := by simp [World.cell?, hX3]
          have x2_hX3 : w3.cell? ⟨w.heap.size, 2, none⟩ = some (.string ⟨#[]⟩) := by simp [World.cell?, hX3]
          have z_hX3 : ∀ j, w3.frozen? ⟨w.heap.size, j, none⟩ = false := fun j => frozen_of_row w3 _ j _ _ hX3
          clear hX2 x0_hX2 x1_hX2 x2_hX2 z_hX2
          go_wp2_with fail
        · have hR9 := set3 (b1 := .int .i64 10) (b2 := .string (s.extract 0 (m + n))) (b3 := .string ByteArray.empty) hX3
          have hB9 := ((hB3.setCell (p := ⟨w.heap.size, 0, none⟩) (Nat.le_refl _) (.int .i64 10)).setCell (p := ⟨w.heap.size, 1, none⟩) (Nat.le_refl _) (.string (s.extract 0 (m + n)))).setCell (p := ⟨w.heap.size, 2, none⟩) (Nat.le_refl _) (.string ByteArray.empty)
          generalize (((w3.setCell ⟨w.heap.size, 0, none⟩ (.int .i64 10)).setCell ⟨w.heap.size, 1, none⟩ (.string (s.extract 0 (m + n)))).setCell ⟨w.heap.size, 2, none⟩ (.string ByteArray.empty)) = W9 at *
          have y0 : W9.cell? ⟨w.heap.size, 0, none⟩ = some (.int .i64 10) := by simp [World.cell?, hR9]
          have y1 : W9.cell? ⟨w.heap.size, 1, none⟩ = some (.string (s.extract 0 (m + n))) := by simp [World.cell?, hR9]
          have y2 : W9.cell? ⟨w.heap.size, 2, none⟩ = some (.string ByteArray.empty) := by simp [World.cell?, hR9]
          exact bodyPost_ret (v := .agg #[.int .i64 10, .string (s.extract 0 (m + n)), .string ByteArray.empty]) (by simp [results, Tryd.results27, go_sem, y0, y1, y2]) rfl ⟨by rw [HE2.out]; rfl, hB9⟩
        · have hR9 := set3 (b1 := .int .i64 10) (b2 := .string (s.extract 0 m)) (b3 := .string ByteArray.empty) hX3
          have hB9 := ((hB3.setCell (p := ⟨w.heap.size, 0, none⟩) (Nat.le_refl _) (.int .i64 10)).setCell (p := ⟨w.heap.size, 1, none⟩) (Nat.le_refl _) (.string (s.extract 0 m))).setCell (p := ⟨w.heap.size, 2, none⟩) (Nat.le_refl _) (.string ByteArray.empty)
          generalize (((w3.setCell ⟨w.heap.size, 0, none⟩ (.int .i64 10)).setCell ⟨w.heap.size, 1, none⟩ (.string (s.extract 0 m))).setCell ⟨w.heap.size, 2, none⟩ (.string ByteArray.empty)) = W9 at *
          have y0 : W9.cell? ⟨w.heap.size, 0, none⟩ = some (.int .i64 10) := by simp [World.cell?, hR9]
          have y1 : W9.cell? ⟨w.heap.size, 1, none⟩ = some (.string (s.extract 0 m)) := by simp [World.cell?, hR9]
          have y2 : W9.cell? ⟨w.heap.size, 2, none⟩ = some (.string ByteArray.empty) := by simp [World.cell?, hR9]
          exact bodyPost_ret (v := .agg #[.int .i64 10, .string (s.extract 0 m), .string ByteArray.empty]) (by simp [results, Tryd.results27, go_sem, y0, y1, y2]) rfl ⟨by rw [HE2.out]; rfl, hB9⟩
      · rw [if_neg hn] at HD
        obtain ⟨q, hq⟩ : ∃ q, n = q + 1 := ⟨n - 1, by omega⟩
        have hnt := num_text (s := s) (m := m) (n := q) (by omega)
        have hmq : m + q + 1 = m + n := by omega
        rw [hmq] at hnt
        rw [← hnt] at HD
        have HTr := Lib.hid (fun W => Lay_strings_TrimLeft_one (s.extract m (m + q)) 48 (by decide) W)
        have hsz : ((⟨(Lib.trimLeftB (s.extract m (m + q)).data.toList 48).toArray⟩ : ByteArray)).size ≤ 1000000 := by
          have h1 : (Lib.trimLeftB (s.extract m (m + q)).data.toList 48).length ≤ (s.extract m (m + q)).data.toList.length := (List.dropWhile_sublist _).length_le
          rw [bytes_len, ByteArray.size_extract] at h1
          show (Lib.trimLeftB (s.extract m (m + q)).data.toList 48).toArray.size ≤ 1000000
          simp only [List.size_toArray]
          omega
        clear hnt
        generalize (⟨(Lib.trimLeftB (s.extract m (m + q)).data.toList 48).toArray⟩ : ByteArray) = tr at *
        have hn0 : ¬ 18 < n := fun h => hn (.inl h)
        have hn1 : ((n : Int) == 0) = false := by simp; omega
        have hm1 : ((m : Int) == 0) = false := by simp; omega
        have hq1 : q ≤ 17 := by omega
        have hq2 : m + q < s.size := by omega
        have hQ := Lib.hid hq
        have hMQ := Lib.hid hmq
        clear hn hq hmq
        go_wp2_with fail
        have k0 : (0 : Int) ≤ (m : Int) := by omega
        have hqi : (n : Int) = (q : Int) + 1 := by have := hQ.out; omega
        have k1 : IntKind.i64.wrap ((m : Int) + (n : Int)) = (m : Int) + (n : Int) := IntWalk.i64_in _ (by omega)
        have k2 : IntKind.i64.wrap ((m : Int) + (n : Int) - 1) = (m : Int) + (q : Int) := by rw [IntWalk.i64_in _ (by omega)]; omega
        have k3 : (m : Int) ≤ (m : Int) + (q : Int) := by omega
        have k4 : (m : Int) + (q : Int) ≤ (s.size : Int) := by omega
        have k5 : ((m : Int) + (q : Int)).toNat = m + q := by omega
        have k6 : (m : Int) + (n : Int) ≤ (s.size : Int) := by omega
        have k7 : ((m : Int) + (n : Int)).toNat = m + n := by omega
        have k8 : (m : Int) + (q : Int) ≤ (m : Int) + (n : Int) := by omega
        have k9 : (0 : Int) ≤ (m : Int) + (q : Int) := by omega
        clear hqi
        refine wp_region_ord (S := fun w' => w'.cell? ⟨X, 0, none⟩ = some (.string s)) [0, 1, 2, 3, 4, 5, 6, 7, 8, 9, 10, 12, 13, 14, 15, 16, 17, 18, 19, 20, 21, 22, 23, 24] [11, 25, 26] (by kernel_rfl) (by kernel_rfl) (fun _ _ _ _ _ h => h) f0 ?_
        simp only [pick, List.filterMap_cons, List.filterMap_nil, List.getElem?_toArray, List.getElem?_cons_zero, List.getElem?_cons_succ]
        repeat (refine wpHead_step (v := ?_) rfl ?_ ?_; rotate_left; (focus (rintro w1 f0'; go_simp; try with_reducible rfl)); simp only [Act.put, List.setIfInBounds_toArray, List.set_cons_zero, List.set_cons_succ])
        refine wpHead_nil ?_
        clear k0 k1 k2 k3 k4 k5 k6 k7 k8 k9
        have k1 : IntKind.i64.wrap ((m : Int) + (n : Int)) = (m : Int) + (n : Int) := IntWalk.i64_in _ (by omega)
        have K1 := Lib.hid k1
        clear k1
        refine wpTail_step rfl (fun K hK => ?_)
        go_wp2_with fail
        refine (HTr.out _).mono ?_
        rintro e w3 ⟨rfl, rfl⟩
        go_wp2_with fail
        refine hK _ _ f0 ?_
        clear hK K
        try simp only [Act.put, List.setIfInBounds_toArray, List.set_cons_zero, List.set_cons_succ]
        have hds : (s.extract (m + q) (m + n)).size ≤ 1000000 := by rw [ByteArray.size_extract]; omega
        have hDs : (tr ++ s.extract (m + q) (m + n)).size ≤ 2000000 := by rw [ByteArray.size_append]; omega
        generalize s.extract (m + q) (m + n) = dl at *
        refine wpTail_step rfl (fun K hK => ?_)
        go_wp2_with fail
        refine hK _ _ f0 ?_
        clear hK K
        try simp only [Act.put, List.setIfInBounds_toArray, List.set_cons_zero, List.set_cons_succ]
        refine wpTail_step rfl (fun K hK => ?_)
        go_wp2_with fail
        refine hK _ _ f0 ?_
        clear hK K
        try simp only [Act.put, List.setIfInBounds_toArray, List.set_cons_zero, List.set_cons_succ]
        refine wpTail_nil ?_
        generalize hD : tr ++ dl = D at *
        clear hD
        have ft : (w2.drew).cell? ⟨X, 0, none⟩ = some (.string s) := f0
        have k6 : (m : Int) + (n : Int) ≤ (s.size : Int) := by omega
        by_cases h48 : D = ⟨#[48]⟩
        · have HE2 : Hid (tNumber s = ⟨3, s.extract 0 (m + n), D⟩) := Lib.hid (by rw [HE.out, if_neg (fun h => hm0 h.1), HD.out, if_neg (fun h => h.2 h48)])
          have q48 := bytes_beq_yes h48
          rw [toList_48] at q48
          have HT2 := Lib.hid (HT.out 3 D (m + n) w2.drew ft hnl)
          clear h48 HE HD HT
          go_wp2_with fail
          refine HT2.out.mono ?_
          rintro e w4 ⟨rfl, hb4⟩
          have hB4 : Below w.heap.size w w4 := hB2.trans (((Below.refl _ w2).drew).trans (hb4.mono hB2.size))
          have hX4 := (hb4.block w.heap.size (Array.getElem?_eq_some_iff.1 hX2).1).trans hX2
          have x0_hX4 : w4.cell? ⟨w.heap.size, 0, none⟩ = some (.int .i64 0) := by simp [World.cell?, hX4]
          have x1_hX4 : w4.cell? ⟨w.heap.size, 1, none⟩ = some (.string ⟨#[]⟩) := by simp [World.cell?, hX4]
          have x2_hX4 : w4.cell? ⟨w.heap.size, 2, none⟩ = some (.string ⟨#[]⟩) := by simp [World.cell?, hX4]
          have z_hX4 : ∀ j, w4.frozen? ⟨w.heap.size, j, none⟩ = false := fun j => frozen_of_row w4 _ j _ _ hX4
          clear hX2 x0_hX2 x1_hX2 x2_hX2 z_hX2
          go_wp2_with fail
          have hR9 := set3 (b1 := .int .i64 3) (b2 := .string (s.extract 0 (m + n))) (b3 := .string D) hX4
          have hB9 := ((hB4.setCell (p := ⟨w.heap.size, 0, none⟩) (Nat.le_refl _) (.int .i64 3)).setCell (p := ⟨w.heap.size, 1, none⟩) (Nat.le_refl _) (.string (s.extract 0 (m + n)))).setCell (p := ⟨w.heap.size, 2, none⟩) (Nat.le_refl _) (.string D)
          generalize (((w4.setCell ⟨w.heap.size, 0, none⟩ (.int .i64 3)).setCell ⟨w.heap.size, 1, none⟩ (.string (s.extract 0 (m + n)))).setCell ⟨w.heap.size, 2, none⟩ (.string D)) = W9 at *
          have y0 : W9.cell? ⟨w.heap.size, 0, none⟩ = some (.int .i64 3) := by simp [World.cell?, hR9]
          have y1 : W9.cell? ⟨w.heap.size, 1, none⟩ = some (.string (s.extract 0 (m + n))) := by simp [World.cell?, hR9]
          have y2 : W9.cell? ⟨w.heap.size, 2, none⟩ = some (.string D) := by simp [World.cell?, hR9]
          exact bodyPost_ret (v := .agg #[.int .i64 3, .string (s.extract 0 (m + n)), .string D]) (by simp [results, Tryd.results27, go_sem, y0, y1, y2]) rfl ⟨by rw [HE2.out]; rfl, hB9⟩
        · have HE2 : Hid (tNumber s = ⟨3, s.extract 0 (m + n), ⟨#[194, 175]⟩ ++ D⟩) := Lib.hid (by rw [HE.out, if_neg (fun h => hm0 h.1), HD.out, if_pos ⟨by omega, h48⟩])
          have q48 := bytes_beq_no h48
          rw [toList_48] at q48
          have HT2 := Lib.hid (HT.out 3 (⟨#[194, 175]⟩ ++ D) (m + n) w2.drew ft hnl)
          clear h48 HE HD HT
          go_wp2_with fail
          refine HT2.out.mono ?_
          rintro e w4 ⟨rfl, hb4⟩
          have hB4 : Below w.heap.size w w4 := hB2.trans (((Below.refl _ w2).drew).trans (hb4.mono hB2.size))
          have hX4 := (hb4.block w.heap.size (Array.getElem?_eq_some_iff.1 hX2).1).trans hX2
          have x0_hX4 : w4.cell? ⟨w.heap.size, 0, none⟩ = some (.int .i64 0) := by simp [World.cell?, hX4]
          have x1_hX4 : w4.cell? ⟨w.heap.size, 1, none⟩ = some (.string ⟨#[]⟩) := by simp [World.cell?, hX4]
          have x2_hX4 : w4.cell? ⟨w.heap.size, 2, none⟩ = some (.string ⟨#[]⟩) := by simp [World.cell?, hX4]
          have z_hX4 : ∀ j, w4.frozen? ⟨w.heap.size, j, none⟩ = false := fun j => frozen_of_row w4 _ j _ _ hX4
          clear hX2 x0_hX2 x1_hX2 x2_hX2 z_hX2
          go_wp2_with fail
          have hR9 := set3 (b1 := .int .i64 3) (b2 := .string (s.extract 0 (m + n))) (b3 := .string (ByteArray.mk #[194, 175] ++ D)) hX4
          have hB9 := ((hB4.setCell (p := ⟨w.heap.size, 0, none⟩) (Nat.le_refl _) (.int .i64 3)).setCell (p := ⟨w.heap.size, 1, none⟩) (Nat.le_refl _) (.string (s.extract 0 (m + n)))).setCell (p := ⟨w.heap.size, 2, none⟩) (Nat.le_refl _) (.string (ByteArray.mk #[194, 175] ++ D))
          generalize (((w4.setCell ⟨w.heap.size, 0, none⟩ (.int .i64 3)).setCell ⟨w.heap.size, 1, none⟩ (.string (s.extract 0 (m + n)))).setCell ⟨w.heap.size, 2, none⟩ (.string (ByteArray.mk #[194, 175] ++ D))) = W9 at *
          have y0 : W9.cell? ⟨w.heap.size, 0, none⟩ = some (.int .i64 3) := by simp [World.cell?, hR9]
          have y1 : W9.cell? ⟨w.heap.size, 1, none⟩ = some (.string (s.extract 0 (m + n))) := by simp [World.cell?, hR9]
          have y2 : W9.cell? ⟨w.heap.size, 2, none⟩ = some (.string (ByteArray.mk #[194, 175] ++ D)) := by simp [World.cell?, hR9]
          exact bodyPost_ret (v := .agg #[.int .i64 3, .string (s.extract 0 (m + n)), .string (ByteArray.mk #[194, 175] ++ D)]) (by simp [results, Tryd.results27, go_sem, y0, y1, y2]) rfl ⟨by rw [HE2.out]; rfl, hB9⟩
    | false =>
      simp only [Bool.false_eq_true, if_false] at HMm
      obtain rfl := HMm.out
      rw [Nat.zero_add] at hnl HD
      go_enter Tryd.func27, Tryd.ntmps27
      go_wp2_with fail
      refine HW.out.mono ?_
      rintro e w1 ⟨rfl, hb1⟩
      have hL1 := HL.out.below hb1
      obtain ⟨d0, d1, d2⟩ := HC.out _ hL1
      have hB1 : Below w.heap.size w w1 := hB0.trans (hb1.mono (by omega))
      have hX1 := (hb1.block w.heap.size (by omega)).trans hX0
      clear c0 c1 c2
      go_wp2_with fail
      have e0 : s.extract 0 s.size = s := ext_all s (Nat.le_refl _)
      rw [e0] at HWD
      have hbA := below_new w1 (.cells #[.string (s)] 53)
      have cA : (w1.alloc (.cells #[.string (s)] 53)).cell? ⟨w1.heap.size, 0, none⟩ = some (.string (s)) := by simp
      have HWA := Lib.hid (HWD.out _ _ cA)
      refine HWA.out.mono ?_
      rintro e w2 ⟨rfl, hb2⟩
      have hbB : Below w1.heap.size w1 w2 := hbA.trans (hb2.mono (by simp))
      have hL2 := hL1.below hbB
      obtain ⟨f0, _, _⟩ := HC.out _ hL2
      have hB2 : Below w.heap.size w w2 := hB1.trans (hbB.mono hB1.size)
      have hX2 := (hbB.block w.heap.size (Array.getElem?_eq_some_iff.1 hX1).1).trans hX1
      have x0_hX2 : w2.cell? ⟨w.heap.size, 0, none⟩ = some (.int .i64 0) := by simp [World.cell?, hX2]
      have x1_hX2 : w2.cell? ⟨w.heap.size, 1, none⟩ = some (.string ⟨#[]⟩) := by simp [World.cell?, hX2]
      have x2_hX2 : w2.cell? ⟨w.heap.size, 2, none⟩ = some (.string ⟨#[]⟩) := by simp [World.cell?, hX2]
      have z_hX2 : ∀ j, w2.frozen? ⟨w.heap.size, j, none⟩ = false := fun j => frozen_of_row w2 _ j _ _ hX2
      have hX2s : X < w2.heap.size := hL2.lt
      clear hbA cA HWA hb2 hbB hL1 d0 d1 d2 hb1 hX1 HW HWD hX0 HC HL
      by_cases hnz : n = 0
      · rw [if_pos ⟨trivial, hnz⟩] at HE
        clear HD HT hX2s e0
        have hz1 : ((n : Int) == 0) = true := by rw [hnz]; rfl
        clear hnz
        go_wp2_with fail
        have hR9 := set3 (b1 := .int .i64 0) (b2 := .string (ByteArray.mk #[])) (b3 := .string (ByteArray.mk #[])) hX2
        have hB9 := ((hB2.setCell (p := ⟨w.heap.size, 0, none⟩) (Nat.le_refl _) (.int .i64 0)).setCell (p := ⟨w.heap.size, 1, none⟩) (Nat.le_refl _) (.string (ByteArray.mk #[]))).setCell (p := ⟨w.heap.size, 2, none⟩) (Nat.le_refl _) (.string (ByteArray.mk #[]))
        generalize (((w2.setCell ⟨w.heap.size, 0, none⟩ (.int .i64 0)).setCell ⟨w.heap.size, 1, none⟩ (.string (ByteArray.mk #[]))).setCell ⟨w.heap.size, 2, none⟩ (.string (ByteArray.mk #[]))) = W9 at *
        have y0 : W9.cell? ⟨w.heap.size, 0, none⟩ = some (.int .i64 0) := by simp [World.cell?, hR9]
        have y1 : W9.cell? ⟨w.heap.size, 1, none⟩ = some (.string (ByteArray.mk #[])) := by simp [World.cell?, hR9]
        have y2 : W9.cell? ⟨w.heap.size, 2, none⟩ = some (.string (ByteArray.mk #[])) := by simp [World.cell?, hR9]
        exact bodyPost_ret (v := .agg #[.int .i64 0, .string (ByteArray.mk #[]), .string (ByteArray.mk #[])]) (by simp [results, Tryd.results27, go_sem, y0, y1, y2]) rfl ⟨by rw [HE.out]; rfl, hB9⟩
      have hz1 : ((n : Int) == 0) = false := by simp; omega
      rw [if_neg (fun h => hnz h.2)] at HE
      by_cases hn : 18 < n ∨ n = 0
      · rw [if_pos hn] at HD
        have HT2 := Lib.hid (HT.out 10 ByteArray.empty n w2 f0 hnl)
        have HE2 : Hid (tNumber s = ⟨10, s.extract 0 n, noText⟩) := Lib.hid (by rw [HE.out, HD.out])
        have hn18 : 18 < n := by omega
        clear HE HD HT hX2s hn hnz e0
        go_wp2_with fail
        refine HT2.out.mono ?_
        rintro e w3 ⟨rfl, hb3⟩
        have hB3 : Below w.heap.size w w3 := hB2.trans (hb3.mono hB2.size)
        have hX3 := (hb3.block w.heap.size (Array.getElem?_eq_some_iff.1 hX2).1).trans hX2
        have x0_hX3 : w3.cell? ⟨w.heap.size, 0, none⟩ = some (.int .i64 0) := by simp [World.cell?, hX3]
        have x1_hX3 : w3.cell? ⟨w.heap.size, 1, none⟩ = some (.string ⟨#[]⟩) := by simp [World.cell?, hX3]
        have x2_hX3 : w3.cell? ⟨w.heap.size, 2, none⟩ = some (.string ⟨#[]⟩) := by simp [World.cell?, hX3]
        have z_hX3 : ∀ j, w3.frozen? ⟨w.heap.size, j, none⟩ = false := fun j => frozen_of_row w3 _ j _ _ hX3
        clear hX2 x0_hX2 x1_hX2 x2_hX2 z_hX2
        go_wp2_with fail
        have hR9 := set3 (b1 := .int .i64 10) (b2 := .string (s.extract 0 n)) (b3 := .string ByteArray.empty) hX3
        have hB9 := ((hB3.setCell (p := ⟨w.heap.size, 0, none⟩) (Nat.le_refl _) (.int .i64 10)).setCell (p := ⟨w.heap.size, 1, none⟩) (Nat.le_refl _) (.string (s.extract 0 n))).setCell (p := ⟨w.heap.size, 2, none⟩) (Nat.le_refl _) (.string ByteArray.empty)
        generalize (((w3.setCell ⟨w.heap.size, 0, none⟩ (.int .i64 10)).setCell ⟨w.heap.size, 1, none⟩ (.string (s.extract 0 n))).setCell ⟨w.heap.size, 2, none⟩ (.string ByteArray.empty)) = W9 at *
        have y0 : W9.cell? ⟨w.heap.size, 0, none⟩ = some (.int .i64 10) := by simp [World.cell?, hR9]
        have y1 : W9.cell? ⟨w.heap.size, 1, none⟩ = some (.string (s.extract 0 n)) := by simp [World.cell?, hR9]
        have y2 : W9.cell? ⟨w.heap.size, 2, none⟩ = some (.string ByteArray.empty) := by simp [World.cell?, hR9]
        exact bodyPost_ret (v := .agg #[.int .i64 10, .string (s.extract 0 n), .string ByteArray.empty]) (by simp [results, Tryd.results27, go_sem, y0, y1, y2]) rfl ⟨by rw [HE2.out]; rfl, hB9⟩
      · rw [if_neg hn] at HD
        obtain ⟨q, hq⟩ : ∃ q, n = q + 1 := ⟨n - 1, by omega⟩
        have hnt := num_text (s := s) (m := 0) (n := q) (by omega)
        have hmq : q + 1 = n := by omega
        rw [Nat.zero_add, hmq] at hnt
        rw [← hnt] at HD
        have HTr := Lib.hid (fun W => Lay_strings_TrimLeft_one (s.extract 0 q) 48 (by decide) W)
        have hsz : ((⟨(Lib.trimLeftB (s.extract 0 q).data.toList 48).toArray⟩ : ByteArray)).size ≤ 1000000 := by
          have h1 : (Lib.trimLeftB (s.extract 0 q).data.toList 48).length ≤ (s.extract 0 q).data.toList.length := (List.dropWhile_sublist _).length_le
          rw [bytes_len, ByteArray.size_extract] at h1
          show (Lib.trimLeftB (s.extract 0 q).data.toList 48).toArray.size ≤ 1000000
          simp only [List.size_toArray]
          omega
        clear hnt
        generalize (⟨(Lib.trimLeftB (s.extract 0 q).data.toList 48).toArray⟩ : ByteArray) = tr at *
        have hn0 : ¬ 18 < n := fun h => hn (.inl h)
        have hn1 : ((n : Int) == 0) = false := by simp; omega
        have hq1 : q ≤ 17 := by omega
        have hq2 : q < s.size := by omega
        have hQ := Lib.hid hq
        have hMQ := Lib.hid hmq
        clear hn hq hmq
        go_wp2_with fail
        have hqi : (n : Int) = (q : Int) + 1 := by have := hQ.out; omega
        have k1 : IntKind.i64.wrap (n : Int) = (n : Int) := IntWalk.i64_in _ (by omega)
        have k1' : IntKind.i64.wrap (0 + (n : Int)) = (n : Int) := by rw [Int.zero_add]; exact k1
        have k2 : IntKind.i64.wrap ((n : Int) - 1) = (q : Int) := by rw [IntWalk.i64_in _ (by omega)]; omega
        have k4 : (q : Int) ≤ (s.size : Int) := by omega
        have k6 : (n : Int) ≤ (s.size : Int) := by omega
        have k8 : (q : Int) ≤ (n : Int) := by omega
        clear hqi
        refine wp_region_ord (S := fun w' => w'.cell? ⟨X, 0, none⟩ = some (.string s)) [0, 1, 2, 3, 4, 5, 6, 7, 8, 9, 10, 12, 13, 14, 15, 16, 17, 18, 19, 20, 21, 22, 23, 24] [11, 25, 26] (by kernel_rfl) (by kernel_rfl) (fun _ _ _ _ _ h => h) f0 ?_
        simp only [pick, List.filterMap_cons, List.filterMap_nil, List.getElem?_toArray, List.getElem?_cons_zero, List.getElem?_cons_succ]
        repeat (refine wpHead_step (v := ?_) rfl ?_ ?_; rotate_left; (focus (rintro w1 f0'; go_simp; try with_reducible rfl)); simp only [Act.put, List.setIfInBounds_toArray, List.set_cons_zero, List.set_cons_succ])
        refine wpHead_nil ?_
        clear k1 k1' k2 k4 k6 k8
        refine wpTail_step rfl (fun K hK => ?_)
        go_wp2_with fail
        refine (HTr.out _).mono ?_
        rintro e w3 ⟨rfl, rfl⟩
        go_wp2_with fail
        refine hK _ _ f0 ?_
        clear hK K
        try simp only [Act.put, List.setIfInBounds_toArray, List.set_cons_zero, List.set_cons_succ]
        have hds : (s.extract q n).size ≤ 1000000 := by rw [ByteArray.size_extract]; omega
        have hDs : (tr ++ s.extract q n).size ≤ 2000000 := by rw [ByteArray.size_append]; omega
        generalize s.extract q n = dl at *
        refine wpTail_step rfl (fun K hK => ?_)
        go_wp2_with fail
        refine hK _ _ f0 ?_
        clear hK K
        try simp only [Act.put, List.setIfInBounds_toArray, List.set_cons_zero, List.set_cons_succ]
        refine wpTail_step rfl (fun K hK => ?_)
        go_wp2_with fail
        refine hK _ _ f0 ?_
        clear hK K
        try simp only [Act.put, List.setIfInBounds_toArray, List.set_cons_zero, List.set_cons_succ]
        refine wpTail_nil ?_
        generalize hD : tr ++ dl = D at *
        clear hD
        have ft : (w2.drew).cell? ⟨X, 0, none⟩ = some (.string s) := f0
        have HE2 : Hid (tNumber s = ⟨3, s.extract 0 n, D⟩) := Lib.hid (by rw [HE.out, HD.out, if_neg (fun h => absurd h.1 (Nat.lt_irrefl 0))])
        have HT2 := Lib.hid (HT.out 3 D n w2.drew ft hnl)
        clear HE HD HT
        go_wp2_with fail
        refine HT2.out.mono ?_
        rintro e w4 ⟨rfl, hb4⟩
        have hB4 : Below w.heap.size w w4 := hB2.trans (((Below.refl _ w2).drew).trans (hb4.mono hB2.size))
        have hX4 := (hb4.block w.heap.size (Array.getElem?_eq_some_iff.1 hX2).1).trans hX2
        have x0_hX4 : w4.cell? ⟨w.heap.size, 0, none⟩ = some (.int .i64 0) := by simp [World.cell?, hX4]
        have x1_hX4 : w4.cell? ⟨w.heap.size, 1, none⟩ = some (.string ⟨#[]⟩) := by simp [World.cell?, hX4]
        have x2_hX4 : w4.cell? ⟨w.heap.size, 2, none⟩ = some (.string ⟨#[]⟩) := by simp [World.cell?, hX4]
        have z_hX4 : ∀ j, w4.frozen? ⟨w.heap.size, j, none⟩ = false := fun j => frozen_of_row w4 _ j _ _ hX4
        clear hX2 x0_hX2 x1_hX2 x2_hX2 z_hX2
        go_wp2_with fail
        have hR9 := set3 (b1 := .int .i64 3) (b2 := .string (s.extract 0 n)) (b3 := .string D) hX4
        have hB9 := ((hB4.setCell (p := ⟨w.heap.size, 0, none⟩) (Nat.le_refl _) (.int .i64 3)).setCell (p := ⟨w.heap.size, 1, none⟩) (Nat.le_refl _) (.string (s.extract 0 n))).setCell (p := ⟨w.heap.size, 2, none⟩) (Nat.le_refl _) (.string D)
        generalize (((w4.setCell ⟨w.heap.size, 0, none⟩ (.int .i64 3)).setCell ⟨w.heap.size, 1, none⟩ (.string (s.extract 0 n))).setCell ⟨w.heap.size, 2, none⟩ (.string D)) = W9 at *
        have y0 : W9.cell? ⟨w.heap.size, 0, none⟩ = some (.int .i64 3) := by simp [World.cell?, hR9]
        have y1 : W9.cell? ⟨w.heap.size, 1, none⟩ = some (.string (s.extract 0 n)) := by simp [World.cell?, hR9]
        have y2 : W9.cell? ⟨w.heap.size, 2, none⟩ = some (.string D) := by simp [World.cell?, hR9]
        exact bodyPost_ret (v := .agg #[.int .i64 3, .string (s.extract 0 n), .string D]) (by simp [results, Tryd.results27, go_sem, y0, y1, y2]) rfl ⟨by rw [HE2.out]; rfl, hB9⟩
  by_cases h5 : cl = 5
  · have hM := HM.out
    rw [if_pos h5] at hM
    exact key true (by simpa using h5) (by rw [hM]; rfl) (fun _ => by rw [hM]; have := hgp h5; omega)
  · have hM := HM.out
    rw [if_neg h5] at hM
    exact key false (by simpa using h5) (by rw [hM]; rfl) (fun h => by cases h)
end Go.Proofs.YteojnejomgomjaaDoor
