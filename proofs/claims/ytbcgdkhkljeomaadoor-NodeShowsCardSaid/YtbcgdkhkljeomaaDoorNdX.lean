/-
  A text, as a show has it, and a kind's digits: by the reference.
-/
import Derived.Test.YtbcgdkhkljeomaaDoorProg
import Derived.Test.YtbcgdkhkljeomaaDoorReg
import Derived.WalkKit
import Derived.WalkSpells
import Derived.WalkLawsBesides
import Derived.Lib.Hide
import Derived.Lib.MinMax
import Derived.Deep.QuietTactic
import Derived.BigQuiet
import Derived.OwnWalk
import Derived.Deep.AppendLies
import Derived.KernelRfl
import Derived.Test.YtbcgdkhkljeomaaDoorNdW
set_option linter.unusedSimpArgs false
set_option linter.unusedVariables false
namespace Go.Proofs.YtbcgdkhkljeomaaDoor
open Go.RowKit Go.Shelf

set_option maxRecDepth 100000 in
set_option maxHeartbeats 4000000 in
theorem refWord_any (s : ByteArray) (w : World) (hs : s.size ≤ 1000000) :
    Calls Tryd.prog 54 #[.string s] w fun e w' => e = .returned (.string ⟨(wordOf s.data.toList).toArray⟩) ∧ Below w.heap.size w w' := by
  obtain ⟨i0, hi0, hz0, hz1, hz2⟩ := info_parts infoBy
  go_enter Tryd.func54, Tryd.ntmps54
  go_wp2_with fail
  generalize hL : s.data.toList = L at *
  have HLN : Hid (s.size = L.length) := Lib.hid (by rw [← hL]; rfl)
  have HLG : Hid (∀ (k : Nat) (h : k < s.size) (h2 : k < L.length), s[k] = L[k]) := Lib.hid (fun k h h2 => by subst hL; rfl)
  go_loopw [4, 5] (fun v i wr => ∃ k : Nat, i = .int .i64 k ∧ k ≤ L.length ∧ Hid (wr.ownsRow w.heap.size tU 1 v (wordOf (L.take k)).length (bv (wordOf (L.take k)))) ∧ Hid (Below w.heap.size w wr)) (fun _ i _ => L.length - (intOf i).toNat)
  case atStart => exact ⟨0, rfl, Nat.zero_le _, Lib.hid (World.ownsRow_nil _ _ _ _), Lib.hid (Below.refl _ _)⟩
  case round =>
    obtain ⟨k, rfl, hk, HO, HB⟩ := hrel
    by_cases hlt : k < L.length
    · have HW : Hid (wordOf (L.take (k + 1)) = wordOf (L.take k) ++ wordOne L[k]) := Lib.hid (by rw [List.take_succ_eq_append_getElem hlt, wordOf_snoc])
      have hwl := wordOf_len (L.take k)
      rw [List.length_take] at hwl
      have hks : k < s.size := by rw [HLN.out]; exact hlt
      have hg := HLG.out k hks hlt
      generalize L[k] = x at *
      have hx := UInt8.toNat_lt x
      have hlt' : (k : Int) < (s.size : Int) := by rw [HLN.out]; omega
      have hk6 : k ≤ 1000000 := by omega
      have hwl6 : (wordOf (L.take k)).length ≤ 3000000 := by omega
      clear hwl
      have hsz := HB.out.size
      have HE : Hid (escaped x = true → wordOne x = [37, hexOf (x.toNat / 16), hexOf (x.toNat % 16)]) := Lib.hid (fun h => by unfold wordOne; rw [if_pos h])
      have HNE : Hid (escaped x = false → wordOne x = [x]) := Lib.hid (fun h => by unfold wordOne; rw [h]; rfl)
      by_cases h1 : x.toNat < 33
      · have q1 : (x.toNat : Int) < 33 := by omega
        have w1 := HE.out (esc_lo x h1)
        have HW1 : Hid (wordOf (L.take (k + 1)) = wordOf (L.take k) ++ [37, hexOf (x.toNat / 16), hexOf (x.toNat % 16)]) := Lib.hid (by rw [HW.out, w1])
        have k0 : (0 : Int) ≤ (x.toNat : Int) / 16 := by omega
        have k1 : (x.toNat : Int) / 16 < 16 := by omega
        have k2 : (0 : Int) ≤ (x.toNat : Int) % 16 := by omega
        have k3 : (x.toNat : Int) % 16 < 16 := by omega
        have k8 : IntKind.u8.wrap ((x.toNat : Int) / 16) = (x.toNat : Int) / 16 := IntWalk.u8_in _ (by omega)
        have k9 : IntKind.u8.wrap ((x.toNat : Int) % 16) = (x.toNat : Int) % 16 := IntWalk.u8_in _ (by omega)
        have k10 : (x.toNat : Int).tmod 16 = (x.toNat : Int) % 16 := Int.tmod_eq_emod_of_nonneg (by omega)
        have k5 := fun hm => hex_get (x.toNat / 16) (by omega) ((x.toNat : Int) / 16).toNat (by omega) hm
        have k6 := fun hm => hex_get (x.toNat % 16) (by omega) (x.toNat % 16) rfl hm
        have k7 := fun hm => hex_get (x.toNat % 16) (by omega) ((x.toNat : Int) % 16).toNat (by omega) hm
        clear HW w1
        generalize hexOf (x.toNat / 16) = a1 at *
        generalize hexOf (x.toNat % 16) = a2 at *
        go_wp2_with fail
        refine wp_region_ord (S := fun _ => True) [0, 1, 2, 3, 4, 5, 6, 7, 8] [9, 10, 11] (by kernel_rfl) (by kernel_rfl) (fun _ _ _ _ _ h => h) trivial ?_
        simp only [pick, List.filterMap_cons, List.filterMap_nil, List.getElem?_toArray, List.getElem?_cons_zero, List.getElem?_cons_succ]
        repeat (refine wpHead_step (v := ?_) rfl ?_ ?_; rotate_left; (focus (rintro w1 _; go_simp; try with_reducible rfl)); simp only [Act.put, List.setIfInBounds_toArray, List.set_cons_zero, List.set_cons_succ])
        refine wpHead_nil ?_
        refine wpTail_step rfl (fun K hK => ?_)
        go_wp2_with fail
        refine hK _ _ trivial ?_
        clear hK K
        try simp only [Act.put, List.setIfInBounds_toArray, List.set_cons_zero, List.set_cons_succ]
        refine wpTail_step rfl (fun K hK => ?_)
        refine wp_append_own _ _ _ 80 rfl w.heap.size tU i0 _ 1 1 Tryd.underlying80 hi0 hz0 hz1 hz2 rfl (by decide) u4 (wordOf (L.take k)).length (bv (wordOf (L.take k))) rfl ((HO.out.alloc _).drew) ⟨wr.heap.size, 0, none⟩ 3 3 (bv [37, a1, a2]) rfl rfl (World.news_of_block (cs := (bv [37, a1, a2]).toArray) (t := tU) (fr := (0, 0)) (heap_alloc_new wr _)) (by simp [bv, Value.oneCell']) (by unfold maxLen; omega) (by omega) (by simp; omega) (fun v' w5 hown5 hgrow5 _ => ?_)
        rw [← bv_append, ← HW1.out] at hown5
        have hl9 : (wordOf (L.take (k + 1))).length = (wordOf (L.take k)).length + 3 := by rw [HW1.out]; simp
        have HO5 : Hid (w5.ownsRow w.heap.size tU 1 v' (wordOf (L.take (k + 1))).length (bv (wordOf (L.take (k + 1))))) := Lib.hid (by rw [hl9]; exact hown5)
        have HB5 : Hid (Below w.heap.size w w5) := Lib.hid (((HB.out.alloc hsz _).drew).grown hgrow5 (by simp; omega) (ownBlock_ge HO.out))
        clear hl9 hown5 hgrow5
        refine hK _ _ trivial ?_
        clear hK K
        try simp only [Act.put, List.setIfInBounds_toArray, List.set_cons_zero, List.set_cons_succ]
        refine wpTail_step rfl (fun K hK => ?_)
        go_wp2_with fail
        refine hK _ _ trivial ?_
        clear hK K
        try simp only [Act.put, List.setIfInBounds_toArray, List.set_cons_zero, List.set_cons_succ]
        refine wpTail_nil ?_
        go_wp2_with fail
        go_roundw
        case rel => exact ⟨k + 1, by go_num, by omega, HO5, HB5⟩
        case measure => simp [intOf]; omega
      have q1 : ¬ (x.toNat : Int) < 33 := by omega
      by_cases h2 : 126 < x.toNat
      · have q2 : (126 : Int) < (x.toNat : Int) := by omega
        have w1 := HE.out (esc_hi x h2)
        have HW1 : Hid (wordOf (L.take (k + 1)) = wordOf (L.take k) ++ [37, hexOf (x.toNat / 16), hexOf (x.toNat % 16)]) := Lib.hid (by rw [HW.out, w1])
        have k0 : (0 : Int) ≤ (x.toNat : Int) / 16 := by omega
        have k1 : (x.toNat : Int) / 16 < 16 := by omega
        have k2 : (0 : Int) ≤ (x.toNat : Int) % 16 := by omega
        have k3 : (x.toNat : Int) % 16 < 16 := by omega
        have k8 : IntKind.u8.wrap ((x.toNat : Int) / 16) = (x.toNat : Int) / 16 := IntWalk.u8_in _ (by omega)
        have k9 : IntKind.u8.wrap ((x.toNat : Int) % 16) = (x.toNat : Int) % 16 := IntWalk.u8_in _ (by omega)
        have k10 : (x.toNat : Int).tmod 16 = (x.toNat : Int) % 16 := Int.tmod_eq_emod_of_nonneg (by omega)
        have k5 := fun hm => hex_get (x.toNat / 16) (by omega) ((x.toNat : Int) / 16).toNat (by omega) hm
        have k6 := fun hm => hex_get (x.toNat % 16) (by omega) (x.toNat % 16) rfl hm
        have k7 := fun hm => hex_get (x.toNat % 16) (by omega) ((x.toNat : Int) % 16).toNat (by omega) hm
        clear HW w1
        generalize hexOf (x.toNat / 16) = a1 at *
        generalize hexOf (x.toNat % 16) = a2 at *
        go_wp2_with fail
        refine wp_region_ord (S := fun _ => True) [0, 1, 2, 3, 4, 5, 6, 7, 8] [9, 10, 11] (by kernel_rfl) (by kernel_rfl) (fun _ _ _ _ _ h => h) trivial ?_
        simp only [pick, List.filterMap_cons, List.filterMap_nil, List.getElem?_toArray, List.getElem?_cons_zero, List.getElem?_cons_succ]
        repeat (refine wpHead_step (v := ?_) rfl ?_ ?_; rotate_left; (focus (rintro w1 _; go_simp; try with_reducible rfl)); simp only [Act.put, List.setIfInBounds_toArray, List.set_cons_zero, List.set_cons_succ])
        refine wpHead_nil ?_
        refine wpTail_step rfl (fun K hK => ?_)
        go_wp2_with fail
        refine hK _ _ trivial ?_
        clear hK K
        try simp only [Act.put, List.setIfInBounds_toArray, List.set_cons_zero, List.set_cons_succ]
        refine wpTail_step rfl (fun K hK => ?_)
        refine wp_append_own _ _ _ 80 rfl w.heap.size tU i0 _ 1 1 Tryd.underlying80 hi0 hz0 hz1 hz2 rfl (by decide) u4 (wordOf (L.take k)).length (bv (wordOf (L.take k))) rfl ((HO.out.alloc _).drew) ⟨wr.heap.size, 0, none⟩ 3 3 (bv [37, a1, a2]) rfl rfl (World.news_of_block (cs := (bv [37, a1, a2]).toArray) (t := tU) (fr := (0, 0)) (heap_alloc_new wr _)) (by simp [bv, Value.oneCell']) (by unfold maxLen; omega) (by omega) (by simp; omega) (fun v' w5 hown5 hgrow5 _ => ?_)
        rw [← bv_append, ← HW1.out] at hown5
        have hl9 : (wordOf (L.take (k + 1))).length = (wordOf (L.take k)).length + 3 := by rw [HW1.out]; simp
        have HO5 : Hid (w5.ownsRow w.heap.size tU 1 v' (wordOf (L.take (k + 1))).length (bv (wordOf (L.take (k + 1))))) := Lib.hid (by rw [hl9]; exact hown5)
        have HB5 : Hid (Below w.heap.size w w5) := Lib.hid (((HB.out.alloc hsz _).drew).grown hgrow5 (by simp; omega) (ownBlock_ge HO.out))
        clear hl9 hown5 hgrow5
        refine hK _ _ trivial ?_
        clear hK K
        try simp only [Act.put, List.setIfInBounds_toArray, List.set_cons_zero, List.set_cons_succ]
        refine wpTail_step rfl (fun K hK => ?_)
        go_wp2_with fail
        refine hK _ _ trivial ?_
        clear hK K
        try simp only [Act.put, List.setIfInBounds_toArray, List.set_cons_zero, List.set_cons_succ]
        refine wpTail_nil ?_
        go_wp2_with fail
        go_roundw
        case rel => exact ⟨k + 1, by go_num, by omega, HO5, HB5⟩
        case measure => simp [intOf]; omega
      have q2 : ¬ (126 : Int) < (x.toNat : Int) := by omega
      by_cases h3_37 : x = 37
      · have w1 := HE.out (esc_of x (.inl h3_37))
        have p37 : ((x.toNat : Int) == 37) = true := by rw [h3_37]; rfl
        clear h3_37
        have HW1 : Hid (wordOf (L.take (k + 1)) = wordOf (L.take k) ++ [37, hexOf (x.toNat / 16), hexOf (x.toNat % 16)]) := Lib.hid (by rw [HW.out, w1])
        have k0 : (0 : Int) ≤ (x.toNat : Int) / 16 := by omega
        have k1 : (x.toNat : Int) / 16 < 16 := by omega
        have k2 : (0 : Int) ≤ (x.toNat : Int) % 16 := by omega
        have k3 : (x.toNat : Int) % 16 < 16 := by omega
        have k8 : IntKind.u8.wrap ((x.toNat : Int) / 16) = (x.toNat : Int) / 16 := IntWalk.u8_in _ (by omega)
        have k9 : IntKind.u8.wrap ((x.toNat : Int) % 16) = (x.toNat : Int) % 16 := IntWalk.u8_in _ (by omega)
        have k10 : (x.toNat : Int).tmod 16 = (x.toNat : Int) % 16 := Int.tmod_eq_emod_of_nonneg (by omega)
        have k5 := fun hm => hex_get (x.toNat / 16) (by omega) ((x.toNat : Int) / 16).toNat (by omega) hm
        have k6 := fun hm => hex_get (x.toNat % 16) (by omega) (x.toNat % 16) rfl hm
        have k7 := fun hm => hex_get (x.toNat % 16) (by omega) ((x.toNat : Int) % 16).toNat (by omega) hm
        clear HW w1
        generalize hexOf (x.toNat / 16) = a1 at *
        generalize hexOf (x.toNat % 16) = a2 at *
        go_wp2_with fail
        refine wp_region_ord (S := fun _ => True) [0, 1, 2, 3, 4, 5, 6, 7, 8] [9, 10, 11] (by kernel_rfl) (by kernel_rfl) (fun _ _ _ _ _ h => h) trivial ?_
        simp only [pick, List.filterMap_cons, List.filterMap_nil, List.getElem?_toArray, List.getElem?_cons_zero, List.getElem?_cons_succ]
        repeat (refine wpHead_step (v := ?_) rfl ?_ ?_; rotate_left; (focus (rintro w1 _; go_simp; try with_reducible rfl)); simp only [Act.put, List.setIfInBounds_toArray, List.set_cons_zero, List.set_cons_succ])
        refine wpHead_nil ?_
        refine wpTail_step rfl (fun K hK => ?_)
        go_wp2_with fail
        refine hK _ _ trivial ?_
        clear hK K
        try simp only [Act.put, List.setIfInBounds_toArray, List.set_cons_zero, List.set_cons_succ]
        refine wpTail_step rfl (fun K hK => ?_)
        refine wp_append_own _ _ _ 80 rfl w.heap.size tU i0 _ 1 1 Tryd.underlying80 hi0 hz0 hz1 hz2 rfl (by decide) u4 (wordOf (L.take k)).length (bv (wordOf (L.take k))) rfl ((HO.out.alloc _).drew) ⟨wr.heap.size, 0, none⟩ 3 3 (bv [37, a1, a2]) rfl rfl (World.news_of_block (cs := (bv [37, a1, a2]).toArray) (t := tU) (fr := (0, 0)) (heap_alloc_new wr _)) (by simp [bv, Value.oneCell']) (by unfold maxLen; omega) (by omega) (by simp; omega) (fun v' w5 hown5 hgrow5 _ => ?_)
        rw [← bv_append, ← HW1.out] at hown5
        have hl9 : (wordOf (L.take (k + 1))).length = (wordOf (L.take k)).length + 3 := by rw [HW1.out]; simp
        have HO5 : Hid (w5.ownsRow w.heap.size tU 1 v' (wordOf (L.take (k + 1))).length (bv (wordOf (L.take (k + 1))))) := Lib.hid (by rw [hl9]; exact hown5)
        have HB5 : Hid (Below w.heap.size w w5) := Lib.hid (((HB.out.alloc hsz _).drew).grown hgrow5 (by simp; omega) (ownBlock_ge HO.out))
        clear hl9 hown5 hgrow5
        refine hK _ _ trivial ?_
        clear hK K
        try simp only [Act.put, List.setIfInBounds_toArray, List.set_cons_zero, List.set_cons_succ]
        refine wpTail_step rfl (fun K hK => ?_)
        go_wp2_with fail
        refine hK _ _ trivial ?_
        clear hK K
        try simp only [Act.put, List.setIfInBounds_toArray, List.set_cons_zero, List.set_cons_succ]
        refine wpTail_nil ?_
        go_wp2_with fail
        go_roundw
        case rel => exact ⟨k + 1, by go_num, by omega, HO5, HB5⟩
        case measure => simp [intOf]; omega
      have p37 : ((x.toNat : Int) == 37) = false := by
        simp only [beq_eq_false_iff_ne]
        intro e
        exact h3_37 (UInt8.toNat_inj.1 (by have h9 : (37 : UInt8).toNat = 37 := rfl; omega))
      by_cases h3_40 : x = 40
      · have w1 := HE.out (esc_of x (.inr (.inl h3_40)))
        have p40 : ((x.toNat : Int) == 40) = true := by rw [h3_40]; rfl
        clear h3_40
        have HW1 : Hid (wordOf (L.take (k + 1)) = wordOf (L.take k) ++ [37, hexOf (x.toNat / 16), hexOf (x.toNat % 16)]) := Lib.hid (by rw [HW.out, w1])
        have k0 : (0 : Int) ≤ (x.toNat : Int) / 16 := by omega
        have k1 : (x.toNat : Int) / 16 < 16 := by omega
        have k2 : (0 : Int) ≤ (x.toNat : Int) % 16 := by omega
        have k3 : (x.toNat : Int) % 16 < 16 := by omega
        have k8 : IntKind.u8.wrap ((x.toNat : Int) / 16) = (x.toNat : Int) / 16 := IntWalk.u8_in _ (by omega)
        have k9 : IntKind.u8.wrap ((x.toNat : Int) % 16) = (x.toNat : Int) % 16 := IntWalk.u8_in _ (by omega)
        have k10 : (x.toNat : Int).tmod 16 = (x.toNat : Int) % 16 := Int.tmod_eq_emod_of_nonneg (by omega)
        have k5 := fun hm => hex_get (x.toNat / 16) (by omega) ((x.toNat : Int) / 16).toNat (by omega) hm
        have k6 := fun hm => hex_get (x.toNat % 16) (by omega) (x.toNat % 16) rfl hm
        have k7 := fun hm => hex_get (x.toNat % 16) (by omega) ((x.toNat : Int) % 16).toNat (by omega) hm
        clear HW w1
        generalize hexOf (x.toNat / 16) = a1 at *
        generalize hexOf (x.toNat % 16) = a2 at *
        go_wp2_with fail
        refine wp_region_ord (S := fun _ => True) [0, 1, 2, 3, 4, 5, 6, 7, 8] [9, 10, 11] (by kernel_rfl) (by kernel_rfl) (fun _ _ _ _ _ h => h) trivial ?_
        simp only [pick, List.filterMap_cons, List.filterMap_nil, List.getElem?_toArray, List.getElem?_cons_zero, List.getElem?_cons_succ]
        repeat (refine wpHead_step (v := ?_) rfl ?_ ?_; rotate_left; (focus (rintro w1 _; go_simp; try with_reducible rfl)); simp only [Act.put, List.setIfInBounds_toArray, List.set_cons_zero, List.set_cons_succ])
        refine wpHead_nil ?_
        refine wpTail_step rfl (fun K hK => ?_)
        go_wp2_with fail
        refine hK _ _ trivial ?_
        clear hK K
        try simp only [Act.put, List.setIfInBounds_toArray, List.set_cons_zero, List.set_cons_succ]
        refine wpTail_step rfl (fun K hK => ?_)
        refine wp_append_own _ _ _ 80 rfl w.heap.size tU i0 _ 1 1 Tryd.underlying80 hi0 hz0 hz1 hz2 rfl (by decide) u4 (wordOf (L.take k)).length (bv (wordOf (L.take k))) rfl ((HO.out.alloc _).drew) ⟨wr.heap.size, 0, none⟩ 3 3 (bv [37, a1, a2]) rfl rfl (World.news_of_block (cs := (bv [37, a1, a2]).toArray) (t := tU) (fr := (0, 0)) (heap_alloc_new wr _)) (by simp [bv, Value.oneCell']) (by unfold maxLen; omega) (by omega) (by simp; omega) (fun v' w5 hown5 hgrow5 _ => ?_)
        rw [← bv_append, ← HW1.out] at hown5
        have hl9 : (wordOf (L.take (k + 1))).length = (wordOf (L.take k)).length + 3 := by rw [HW1.out]; simp
        have HO5 : Hid (w5.ownsRow w.heap.size tU 1 v' (wordOf (L.take (k + 1))).length (bv (wordOf (L.take (k + 1))))) := Lib.hid (by rw [hl9]; exact hown5)
        have HB5 : Hid (Below w.heap.size w w5) := Lib.hid (((HB.out.alloc hsz _).drew).grown hgrow5 (by simp; omega) (ownBlock_ge HO.out))
        clear hl9 hown5 hgrow5
        refine hK _ _ trivial ?_
        clear hK K
        try simp only [Act.put, List.setIfInBounds_toArray, List.set_cons_zero, List.set_cons_succ]
        refine wpTail_step rfl (fun K hK => ?_)
        go_wp2_with fail
        refine hK _ _ trivial ?_
        clear hK K
        try simp only [Act.put, List.setIfInBounds_toArray, List.set_cons_zero, List.set_cons_succ]
        refine wpTail_nil ?_
        go_wp2_with fail
        go_roundw
        case rel => exact ⟨k + 1, by go_num, by omega, HO5, HB5⟩
        case measure => simp [intOf]; omega
      have p40 : ((x.toNat : Int) == 40) = false := by
        simp only [beq_eq_false_iff_ne]
        intro e
        exact h3_40 (UInt8.toNat_inj.1 (by have h9 : (40 : UInt8).toNat = 40 := rfl; omega))
      by_cases h3_41 : x = 41
      · have w1 := HE.out (esc_of x (.inr (.inr (.inl h3_41))))
        have p41 : ((x.toNat : Int) == 41) = true := by rw [h3_41]; rfl
        clear h3_41
        have HW1 : Hid (wordOf (L.take (k + 1)) = wordOf (L.take k) ++ [37, hexOf (x.toNat / 16), hexOf (x.toNat % 16)]) := Lib.hid (by rw [HW.out, w1])
        have k0 : (0 : Int) ≤ (x.toNat : Int) / 16 := by omega
        have k1 : (x.toNat : Int) / 16 < 16 := by omega
        have k2 : (0 : Int) ≤ (x.toNat : Int) % 16 := by omega
        have k3 : (x.toNat : Int) % 16 < 16 := by omega
        have k8 : IntKind.u8.wrap ((x.toNat : Int) / 16) = (x.toNat : Int) / 16 := IntWalk.u8_in _ (by omega)
        have k9 : IntKind.u8.wrap ((x.toNat : Int) % 16) = (x.toNat : Int) % 16 := IntWalk.u8_in _ (by omega)
        have k10 : (x.toNat : Int).tmod 16 = (x.toNat : Int) % 16 := Int.tmod_eq_emod_of_nonneg (by omega)
        have k5 := fun hm => hex_get (x.toNat / 16) (by omega) ((x.toNat : Int) / 16).toNat (by omega) hm
        have k6 := fun hm => hex_get (x.toNat % 16) (by omega) (x.toNat % 16) rfl hm
        have k7 := fun hm => hex_get (x.toNat % 16) (by omega) ((x.toNat : Int) % 16).toNat (by omega) hm
        clear HW w1
        generalize hexOf (x.toNat / 16) = a1 at *
        generalize hexOf (x.toNat % 16) = a2 at *
        go_wp2_with fail
        refine wp_region_ord (S := fun _ => True) [0, 1, 2, 3, 4, 5, 6, 7, 8] [9, 10, 11] (by kernel_rfl) (by kernel_rfl) (fun _ _ _ _ _ h => h) trivial ?_
        simp only [pick, List.filterMap_cons, List.filterMap_nil, List.getElem?_toArray, List.getElem?_cons_zero, List.getElem?_cons_succ]
        repeat (refine wpHead_step (v := ?_) rfl ?_ ?_; rotate_left; (focus (rintro w1 _; go_simp; try with_reducible rfl)); simp only [Act.put, List.setIfInBounds_toArray, List.set_cons_zero, List.set_cons_succ])
        refine wpHead_nil ?_
        refine wpTail_step rfl (fun K hK => ?_)
        go_wp2_with fail
        refine hK _ _ trivial ?_
        clear hK K
        try simp only [Act.put, List.setIfInBounds_toArray, List.set_cons_zero, List.set_cons_succ]
        refine wpTail_step rfl (fun K hK => ?_)
        refine wp_append_own _ _ _ 80 rfl w.heap.size tU i0 _ 1 1 Tryd.underlying80 hi0 hz0 hz1 hz2 rfl (by decide) u4 (wordOf (L.take k)).length (bv (wordOf (L.take k))) rfl ((HO.out.alloc _).drew) ⟨wr.heap.size, 0, none⟩ 3 3 (bv [37, a1, a2]) rfl rfl (World.news_of_block (cs := (bv [37, a1, a2]).toArray) (t := tU) (fr := (0, 0)) (heap_alloc_new wr _)) (by simp [bv, Value.oneCell']) (by unfold maxLen; omega) (by omega) (by simp; omega) (fun v' w5 hown5 hgrow5 _ => ?_)
        rw [← bv_append, ← HW1.out] at hown5
        have hl9 : (wordOf (L.take (k + 1))).length = (wordOf (L.take k)).length + 3 := by rw [HW1.out]; simp
        have HO5 : Hid (w5.ownsRow w.heap.size tU 1 v' (wordOf (L.take (k + 1))).length (bv (wordOf (L.take (k + 1))))) := Lib.hid (by rw [hl9]; exact hown5)
        have HB5 : Hid (Below w.heap.size w w5) := Lib.hid (((HB.out.alloc hsz _).drew).grown hgrow5 (by simp; omega) (ownBlock_ge HO.out))
        clear hl9 hown5 hgrow5
        refine hK _ _ trivial ?_
        clear hK K
        try simp only [Act.put, List.setIfInBounds_toArray, List.set_cons_zero, List.set_cons_succ]
        refine wpTail_step rfl (fun K hK => ?_)
        go_wp2_with fail
        refine hK _ _ trivial ?_
        clear hK K
        try simp only [Act.put, List.setIfInBounds_toArray, List.set_cons_zero, List.set_cons_succ]
        refine wpTail_nil ?_
        go_wp2_with fail
        go_roundw
        case rel => exact ⟨k + 1, by go_num, by omega, HO5, HB5⟩
        case measure => simp [intOf]; omega
      have p41 : ((x.toNat : Int) == 41) = false := by
        simp only [beq_eq_false_iff_ne]
        intro e
        exact h3_41 (UInt8.toNat_inj.1 (by have h9 : (41 : UInt8).toNat = 41 := rfl; omega))
      by_cases h3_58 : x = 58
      · have w1 := HE.out (esc_of x (.inr (.inr (.inr h3_58))))
        have p58 : ((x.toNat : Int) == 58) = true := by rw [h3_58]; rfl
        clear h3_58
        have HW1 : Hid (wordOf (L.take (k + 1)) = wordOf (L.take k) ++ [37, hexOf (x.toNat / 16), hexOf (x.toNat % 16)]) := Lib.hid (by rw [HW.out, w1])
        have k0 : (0 : Int) ≤ (x.toNat : Int) / 16 := by omega
        have k1 : (x.toNat : Int) / 16 < 16 := by omega
        have k2 : (0 : Int) ≤ (x.toNat : Int) % 16 := by omega
        have k3 : (x.toNat : Int) % 16 < 16 := by omega
        have k8 : IntKind.u8.wrap ((x.toNat : Int) / 16) = (x.toNat : Int) / 16 := IntWalk.u8_in _ (by omega)
        have k9 : IntKind.u8.wrap ((x.toNat : Int) % 16) = (x.toNat : Int) % 16 := IntWalk.u8_in _ (by omega)
        have k10 : (x.toNat : Int).tmod 16 = (x.toNat : Int) % 16 := Int.tmod_eq_emod_of_nonneg (by omega)
        have k5 := fun hm => hex_get (x.toNat / 16) (by omega) ((x.toNat : Int) / 16).toNat (by omega) hm
        have k6 := fun hm => hex_get (x.toNat % 16) (by omega) (x.toNat % 16) rfl hm
        have k7 := fun hm => hex_get (x.toNat % 16) (by omega) ((x.toNat : Int) % 16).toNat (by omega) hm
        clear HW w1
        generalize hexOf (x.toNat / 16) = a1 at *
        generalize hexOf (x.toNat % 16) = a2 at *
        go_wp2_with fail
        refine wp_region_ord (S := fun _ => True) [0, 1, 2, 3, 4, 5, 6, 7, 8] [9, 10, 11] (by kernel_rfl) (by kernel_rfl) (fun _ _ _ _ _ h => h) trivial ?_
        simp only [pick, List.filterMap_cons, List.filterMap_nil, List.getElem?_toArray, List.getElem?_cons_zero, List.getElem?_cons_succ]
        repeat (refine wpHead_step (v := ?_) rfl ?_ ?_; rotate_left; (focus (rintro w1 _; go_simp; try with_reducible rfl)); simp only [Act.put, List.setIfInBounds_toArray, List.set_cons_zero, List.set_cons_succ])
        refine wpHead_nil ?_
        refine wpTail_step rfl (fun K hK => ?_)
        go_wp2_with fail
        refine hK _ _ trivial ?_
        clear hK K
        try simp only [Act.put, List.setIfInBounds_toArray, List.set_cons_zero, List.set_cons_succ]
        refine wpTail_step rfl (fun K hK => ?_)
        refine wp_append_own _ _ _ 80 rfl w.heap.size tU i0 _ 1 1 Tryd.underlying80 hi0 hz0 hz1 hz2 rfl (by decide) u4 (wordOf (L.take k)).length (bv (wordOf (L.take k))) rfl ((HO.out.alloc _).drew) ⟨wr.heap.size, 0, none⟩ 3 3 (bv [37, a1, a2]) rfl rfl (World.news_of_block (cs := (bv [37, a1, a2]).toArray) (t := tU) (fr := (0, 0)) (heap_alloc_new wr _)) (by simp [bv, Value.oneCell']) (by unfold maxLen; omega) (by omega) (by simp; omega) (fun v' w5 hown5 hgrow5 _ => ?_)
        rw [← bv_append, ← HW1.out] at hown5
        have hl9 : (wordOf (L.take (k + 1))).length = (wordOf (L.take k)).length + 3 := by rw [HW1.out]; simp
        have HO5 : Hid (w5.ownsRow w.heap.size tU 1 v' (wordOf (L.take (k + 1))).length (bv (wordOf (L.take (k + 1))))) := Lib.hid (by rw [hl9]; exact hown5)
        have HB5 : Hid (Below w.heap.size w w5) := Lib.hid (((HB.out.alloc hsz _).drew).grown hgrow5 (by simp; omega) (ownBlock_ge HO.out))
        clear hl9 hown5 hgrow5
        refine hK _ _ trivial ?_
        clear hK K
        try simp only [Act.put, List.setIfInBounds_toArray, List.set_cons_zero, List.set_cons_succ]
        refine wpTail_step rfl (fun K hK => ?_)
        go_wp2_with fail
        refine hK _ _ trivial ?_
        clear hK K
        try simp only [Act.put, List.setIfInBounds_toArray, List.set_cons_zero, List.set_cons_succ]
        refine wpTail_nil ?_
        go_wp2_with fail
        go_roundw
        case rel => exact ⟨k + 1, by go_num, by omega, HO5, HB5⟩
        case measure => simp [intOf]; omega
      have p58 : ((x.toNat : Int) == 58) = false := by
        simp only [beq_eq_false_iff_ne]
        intro e
        exact h3_58 (UInt8.toNat_inj.1 (by have h9 : (58 : UInt8).toNat = 58 := rfl; omega))
      · have w1 := HNE.out (esc_no x h1 h2 (by rintro (e | e | e | e) <;> contradiction))
        have HW1 : Hid (wordOf (L.take (k + 1)) = wordOf (L.take k) ++ [x]) := Lib.hid (by rw [HW.out, w1])
        clear HW w1
        go_wp2_with (at_builtin; go_must (refine wpList_append_own _ rfl _ _ 80 rfl w.heap.size tU i0 _ 1 1 Tryd.underlying80 hi0 hz0 hz1 hz2 rfl (by decide) u4 (wordOf (L.take k)).length (bv (wordOf (L.take k))) rfl (HO.out.alloc _) ⟨wr.heap.size, 0, none⟩ 1 1 (bv [x]) rfl rfl (World.news_of_block (cs := (bv [x]).toArray) (t := tU) (fr := (0, 0)) (heap_alloc_new wr _)) (by simp [bv, Value.oneCell']) (by unfold maxLen; omega) (by omega) (by simp; omega) ?_); go_must (intro v1 w5 hown5 hgrow5 _))
        rw [← bv_append, ← HW1.out] at hown5
        have hl9 : (wordOf (L.take (k + 1))).length = (wordOf (L.take k)).length + 1 := by rw [HW1.out]; simp
        have HO5 : Hid (w5.ownsRow w.heap.size tU 1 v1 (wordOf (L.take (k + 1))).length (bv (wordOf (L.take (k + 1))))) := Lib.hid (by rw [hl9]; exact hown5)
        have HB5 : Hid (Below w.heap.size w w5) := Lib.hid ((HB.out.alloc hsz _).grown hgrow5 (by simp; omega) (ownBlock_ge HO.out))
        clear hl9 hown5 hgrow5
        go_wp2_with fail
        go_roundw
        case rel => exact ⟨k + 1, by go_num, by omega, HO5, HB5⟩
        case measure => simp [intOf]; omega
    · obtain rfl : k = L.length := by omega
      have hlt' : ¬ ((L.length : Int) < (s.size : Int)) := by rw [HLN.out]; omega
      have HO2 := HO.out
      rw [List.take_of_length_le (Nat.le_refl _)] at HO2
      have hcv := run_string_of_row (P := Tryd.prog) 80 9 5 Tryd.underlying80 Tryd.underlying5 Tryd.underlying9 HO2
      clear HO2
      go_wp2_with fail
      go_ret
      exact ⟨rfl, HB.out⟩

theorem dig_fin : ∀ n : Fin 15, 1 ≤ n.val → digitsOf (n.val : Int) = if 9 < n.val then [49, UInt8.ofNat (48 + n.val % 10)] else [UInt8.ofNat (48 + n.val)] := by decide
theorem dec_digits (n : Nat) (h1 : 1 ≤ n) (h2 : n ≤ 14) : Lib.decDigits n = digitsOf (n : Int) := by
  have h := dig_fin ⟨n, by omega⟩ h1
  simp only at h
  rw [h]
  by_cases hn : n < 10
  · rw [Lib.decDigits, dif_pos hn, if_neg (by omega)]
  · rw [Lib.decDigits, dif_neg hn, Lib.decDigits, dif_pos (by omega), if_pos (by omega), show n / 10 = 1 by omega]
    rfl
theorem itoa_any (n : Nat) (h1 : 1 ≤ n) (h2 : n ≤ 14) (w : World) :
    Calls Tryd.prog 49 #[.int .i64 n] w fun e w' => e = .returned (.string ⟨(digitsOf (n : Int)).toArray⟩) ∧ w' = w := by
  have h := Lay_strconv_Itoa_small n (by omega) w
  rw [dec_digits n h1 h2] at h
  exact h
theorem one_conv (w : World) (v : Int) (b : UInt8) (e : ((b.toNat : Nat) : Int) = v) :
    (convert 80 9 (.slice (some ⟨w.heap.size, 0, none⟩) 1 1)).run Tryd.prog (w.alloc (.cells #[.int .u8 v] tU)) = .ok (.string ⟨#[b]⟩) (w.alloc (.cells #[.int .u8 v] tU)) := by
  subst e
  refine run_convert_bytes_back (P := Tryd.prog) (w.alloc (.cells #[.int .u8 b.toNat] tU)) 80 9 5 ⟨w.heap.size, 0, none⟩ 1 [b] Tryd.underlying80 Tryd.underlying5 Tryd.underlying9 ?_
  intro j hj
  have h : (w.alloc (.cells #[.int .u8 b.toNat] tU)).heap[w.heap.size]? = some (.cells #[.int .u8 b.toNat] tU (0, 0)) := heap_alloc_new w _
  rw [addr_add0]
  match j, hj with
  | 0, _ => rw [Lib.cell_of_heap h]; rfl

set_option maxRecDepth 100000 in
set_option maxHeartbeats 4000000 in
theorem digits_any (n : Nat) (h1 : 1 ≤ n) (h2 : n ≤ 14) (w : World) :
    Calls Tryd.prog 53 #[.int .i64 n] w fun e w' => e = .returned (.string ⟨(digitsOf (n : Int)).toArray⟩) ∧ Below w.heap.size w w' := by
  have hd := dig_fin ⟨n, by omega⟩ h1
  simp only at hd
  go_enter Tryd.func53, Tryd.ntmps53
  by_cases h : 9 < n
  · have q1 : (9 : Int) < (n : Int) := by omega
    have k1 : (n : Int).tmod 10 = (n : Int) % 10 := Int.tmod_eq_emod_of_nonneg (by omega)
    have k2 : IntKind.i64.wrap ((n : Int) % 10) = (n : Int) % 10 := IntWalk.i64_in _ (by omega)
    have k3 : IntKind.i64.wrap (48 + (n : Int) % 10) = 48 + (n : Int) % 10 := IntWalk.i64_in _ (by omega)
    have k4 : IntKind.u8.wrap (48 + (n : Int) % 10) = 48 + (n : Int) % 10 := IntWalk.u8_in _ (by omega)
    have k5 := one_conv w (48 + (n : Int) % 10) (UInt8.ofNat (48 + n % 10)) (by rw [UInt8.toNat_ofNat']; omega)
    rw [hd, if_pos h]
    clear hd
    generalize UInt8.ofNat (48 + n % 10) = b at *
    have hap : (⟨#[49]⟩ ++ ⟨#[b]⟩ : ByteArray) = ⟨[49, b].toArray⟩ := bytes_eq (by rw [bytes_app]; rfl)
    go_wp2_with fail
    go_ret
    exact ⟨rfl, (Below.refl _ _).alloc (Nat.le_refl _) _⟩
  · have q1 : ¬ (9 : Int) < (n : Int) := by omega
    have k3 : IntKind.i64.wrap (48 + (n : Int)) = 48 + (n : Int) := IntWalk.i64_in _ (by omega)
    have k4 : IntKind.u8.wrap (48 + (n : Int)) = 48 + (n : Int) := IntWalk.u8_in _ (by omega)
    have k5 := one_conv w (48 + (n : Int)) (UInt8.ofNat (48 + n)) (by rw [UInt8.toNat_ofNat']; omega)
    rw [hd, if_neg h]
    clear hd
    generalize UInt8.ofNat (48 + n) = b at *
    go_wp2_with fail
    go_ret
    exact ⟨rfl, (Below.refl _ _).alloc (Nat.le_refl _) _⟩
end Go.Proofs.YtbcgdkhkljeomaaDoor
