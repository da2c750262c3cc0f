/-
  The walk of 'Few'.
-/
import Derived.Test.YtbcgdkhkljeomaaDoorProg
import Derived.Test.YtbcgdkhkljeomaaDoorReg
import Derived.WalkKit
import Derived.WalkSpells
import Derived.WalkLawsBesides
import Derived.Lib.Hide
import Derived.Lib.MinMax
import Derived.Deep.QuietTactic
import Derived.BigQuiet
import Derived.OwnWalk
import Derived.Deep.AppendLies
import Derived.KernelRfl
import Derived.Deep.RegionWith
import Derived.Deep.CutBlock
import Derived.Test.YtbcgdkhkljeomaaDoorNdT
set_option linter.unusedSimpArgs false
set_option linter.unusedVariables false
namespace Go.Proofs.YtbcgdkhkljeomaaDoor
open Go.RowKit

theorem fewN_snoc {t : List Nd} {i : Nat} {x : Nd} (h : t[i]? = some x) (hi : i < 60) : fewN (t.take i) ++ [few1 x] = fewN (t.take (i + 1)) := by
  unfold fewN
  rw [List.take_take, List.take_take, Nat.min_eq_right (by omega), Nat.min_eq_right (by omega), take_one h, List.map_append]
  rfl
theorem fewN_full {t : List Nd} {i : Nat} (h : 60 ≤ i ∨ t.length ≤ i) : fewN (t.take i) = fewN t := by
  unfold fewN
  rw [List.take_take]
  rcases h with h | h
  · rw [Nat.min_eq_left h]
  · congr 1
    by_cases h2 : 60 ≤ i
    · rw [Nat.min_eq_left h2]
    · rw [Nat.min_eq_right (by omega), List.take_of_length_le h, List.take_of_length_le (by omega)]
theorem HoldsI.take {w : World} {A : Option Addr} {l : List Int} (h : HoldsI w A l) (n : Nat) : HoldsI w A (l.take n) := fun k x hx => by
  by_cases hk : k < n
  · rw [List.getElem?_take, if_pos hk] at hx
    exact h k x hx
  · rw [List.getElem?_take, if_neg hk] at hx
    cases hx

set_option maxRecDepth 100000 in
set_option maxHeartbeats 8000000 in
theorem few_any (t : List Nd) (A : Option Addr) (c : Nat) (w : World) (hh : HoldsN w A t) (hl : t.length ≤ maxLen) (hs : ∀ x ∈ t, x.text.size ≤ maxLen) (hkl : ∀ x ∈ t, x.kids.length ≤ maxLen) :
    Calls Tryd.prog 11 #[.slice A t.length c] w fun e w' => ∃ v L, e = .returned v ∧ L.map Prod.fst = fewN t ∧ HasN w' w.heap.size v L ∧ Below w.heap.size w w' := by
  have HH := Lib.hid hh
  have HS := Lib.hid hs
  have HKL := Lib.hid hkl
  have HCUT := Lib.hid cut_any
  clear hh hs hkl
  unfold maxLen at hl
  go_enter Tryd.func11, Tryd.ntmps11
  go_wp2_with fail
  go_loopw [3, 4] (fun v s wr => ∃ (i : Nat) (L : List (Nd × Value)), s = .int .i64 i ∧ i ≤ t.length ∧ i ≤ 60 ∧ Hid (L.length = i) ∧ Hid (L.map Prod.fst = fewN (t.take i)) ∧ Hid (HasN wr w.heap.size v L) ∧ Hid (Below w.heap.size w wr)) (fun _ s _ => 60 - (intOf s).toNat)
  case atStart => exact ⟨0, [], rfl, Nat.zero_le _, by omega, Lib.hid rfl, Lib.hid (by simp [fewN]), Lib.hid (HasN.nil _ _), Lib.hid (Below.refl _ _)⟩
  case round =>
    obtain ⟨i, L, rfl, hi, hi60, HL, HM, HN, HB⟩ := hrel
    by_cases hlt : i < t.length
    · by_cases h60 : i < 60
      · have h60' : (i : Int) < 60 := by omega
        have g := List.getElem?_eq_getElem hlt
        have hmem := List.getElem_mem hlt
        have HM2 : Hid ((L.map Prod.fst) ++ [few1 t[i]] = fewN (t.take (i + 1))) := Lib.hid (by rw [HM.out]; exact fewN_snoc g h60)
        generalize t[i] = x at *
        obtain ⟨b, off, rfl, c0, c1, B, c2, c3, hK, hc⟩ := HH.out i x g
        have z3 := HS.out x hmem
        have z2 := HKL.out x hmem
        unfold maxLen at z2
        have lb : b < w.heap.size := cell_lt c0
        have hb := HB.out
        have hsz := hb.size
        have d0 := (hb.cell (p := ⟨b, _, none⟩) lb).trans c0
        have d1 := (hb.cell (p := ⟨b, _, none⟩) lb).trans c1
        have HC3 := Lib.hid c3
        have HKx := Lib.hid hK
        have lt1 : b < wr.heap.size := by omega
        have HCX := Lib.hid (fun W => HCUT.out x.text W z3)
        clear c0 c1 c3 hK g hmem
        go_wp2_with fail
        go_cut [5] from 16 to 27 (fun p wx => p = .pointer (some ⟨wr.heap.size, 0, none⟩) ∧ wx = (wr.alloc (.cells #[.int .i64 x.kind, .string (cut50 x.text), .slice none 0 0] tN)).drew)
        case first =>
          go_region_with (go_at_call 13; refine (HCX.out _).mono ?_; rintro e w' ⟨rfl, rfl⟩)
          all_goals go_wp2_with fail
          all_goals go_meet
          all_goals exact ⟨rfl, rfl⟩
        case rest =>
          obtain ⟨rfl, rfl⟩ := hcut
          have hr0 : (wr.alloc (.cells #[.int .i64 x.kind, .string (cut50 x.text), .slice none 0 0] tN)).drew.heap[wr.heap.size]? = some (.cells #[.int .i64 x.kind, .string (cut50 x.text), .slice none 0 0] tN (0, 0)) := heap_alloc_new _ _
          have hlow : Below wr.heap.size wr (wr.alloc (.cells #[.int .i64 x.kind, .string (cut50 x.text), .slice none 0 0] tN)).drew := ((Below.refl _ wr).alloc (Nat.le_refl _) _).drew
          have hz0 : (wr.alloc (.cells #[.int .i64 x.kind, .string (cut50 x.text), .slice none 0 0] tN)).drew.heap.size = wr.heap.size + 1 := by simp
          generalize (wr.alloc (.cells #[.int .i64 x.kind, .string (cut50 x.text), .slice none 0 0] tN)).drew = W0 at *
          have HN1 := HN
          clear HN
          generalize hWR : wr = V at *
          generalize hPP : V.heap.size = P at *
          have hBw : Below w.heap.size w W0 := hb.trans (hlow.mono hsz)
          have d2 := (hBw.cell (p := ⟨b, _, none⟩) lb).trans HC3.out
          have f0 : W0.cell? ⟨P, 2, none⟩ = some (.slice none 0 0) := by rw [cell_of_row0 hr0]; rfl
          have hKt : HoldsI W0.drew B (x.kids.take 60) := ((HKx.out.below hBw).take 60)
          have hmn : (x.kids.take 60).length = min x.kids.length 60 := by simp; omega
          obtain ⟨A9, c9, w9, hrun, hown9, hgr9⟩ := push_ints (base := P + 1) (c2 := c2) hKt (by omega) (by show P + 1 ≤ W0.heap.size; omega)
          have hmi : (min (x.kids.length : Int) 60).toNat = (x.kids.take 60).length := by rw [hmn]; omega
          have hm0 : (0 : Int) ≤ min (x.kids.length : Int) 60 := by omega
          have hm1 : min (x.kids.length : Int) 60 ≤ (c2 : Int) := by omega
          have hrow9 : w9.heap[P]? = some (.cells #[.int .i64 x.kind, .string (cut50 x.text), .slice none 0 0] tN (0, 0)) := (hgr9.block P (by show P < W0.heap.size; omega) (by simp)).trans hr0
          have lb9 : b < W0.heap.size := by omega
          have d9 : w9.cell? ⟨b, off + i * 3 + 2, none⟩ = some (.slice B x.kids.length c2) := (hgr9.cell_far ⟨b, off + i * 3 + 2, none⟩ lb9 (by simp)).trans d2
          have f1 : w9.cell? ⟨P, 2, none⟩ = some (.slice none 0 0) := by rw [cell_of_row0 hrow9]; rfl
          have f2 : w9.frozen? ⟨P, 2, none⟩ = false := frozen_of_row w9 _ 2 _ _ hrow9
          generalize (x.kids.take 60).length = m at *
          have hr10 := heap_setCell_same w9 P 2 _ _ (.slice A9 m c9) hrow9
          have hB9 : Below P V (w9.setCell ⟨P, 2, none⟩ (.slice A9 m c9)) := ((hlow.drew.grown hgr9 (by show P ≤ W0.heap.size; omega) (fun kk hkk => by simp at hkk)).setCell (p := ⟨P, 2, none⟩) (Nat.le_refl _) _)
          have hU9 : (w9.setCell ⟨P, 2, none⟩ (.slice A9 m c9)).ownsRow (P + 1) tI 1 (.slice A9 m c9) m (intCells (x.kids.take 60)) := ownsRow_setCell_other hown9 (fun e => (own_apart_cells hown9 hrow9 (by decide)) e) _
          have hz9 : P + 1 ≤ (w9.setCell ⟨P, 2, none⟩ (.slice A9 m c9)).heap.size := by
            have := hgr9.size
            have h2 : W0.drew.heap.size = W0.heap.size := rfl
            simp
            omega
          have HB9 := Lib.hid hB9
          have HU9 := Lib.hid hU9
          clear hB9 hU9 hgr9 hown9 hKt hr0 hrow9 hmn
          go_wp2_with fail
          refine wp_region_ordz (S := fun w' => w'.cell? ⟨P, 2, none⟩ = some (.slice none 0 0) ∧ w'.cell? ⟨b, off + i * 3 + 2, none⟩ = some (.slice B x.kids.length c2)) [0, 1, 2, 3, 4, 5, 6, 7, 8, 9, 10, 11, 12, 13, 14] [15, 16, 17] 17 (by kernel_rfl) (by kernel_rfl) (fun _ _ _ _ _ h => h) ⟨f0, d2⟩ ?_
          simp only [pick, List.filterMap_cons, List.filterMap_nil, List.getElem?_toArray, List.getElem?_cons_zero, List.getElem?_cons_succ]
          repeat (refine wpHead_step (v := ?_) rfl ?_ ?_; rotate_left; (focus (rintro w1 ⟨f0, d2⟩; go_simp; try with_reducible rfl)); simp only [Act.put, List.setIfInBounds_toArray, List.set_cons_zero, List.set_cons_succ])
          refine wpHead_nil ?_
          refine wpTailZ_step rfl (fun K hK => ?_)
          refine wp_append_run _ _ 35 35 rfl rfl rfl hrun ?_
          refine hK _ _ ⟨f1, d9⟩ ?_
          clear hK K
          try simp only [Act.put, List.setIfInBounds_toArray, List.set_cons_zero, List.set_cons_succ]
          refine wpTailZ_step rfl (fun K hK => ?_)
          go_wp2_with fail
          refine hK _ _ ⟨f1, d9⟩ ?_
          clear hK K
          try simp only [Act.put, List.setIfInBounds_toArray, List.set_cons_zero, List.set_cons_succ]
          clear hrun d9 d2 f0 hmi hm0 hm1
          generalize hW5 : w9.setCell ⟨P, 2, none⟩ (.slice A9 m c9) = W5 at *
          have e0 : W5.cell? ⟨P, 0, none⟩ = some (.int .i64 x.kind) := by rw [cell_of_row0 hr10]; rfl
          have e1 : W5.cell? ⟨P, 1, none⟩ = some (.string (cut50 x.text)) := by rw [cell_of_row0 hr10]; rfl
          have e2 : W5.cell? ⟨P, 2, none⟩ = some (.slice A9 m c9) := by rw [cell_of_row0 hr10]; rfl
          have hNr : HasN (W5.alloc (.cells #[.int .i64 x.kind, .string (cut50 x.text), .slice A9 m c9] tN)) w.heap.size u3 L := (HN1.out.below (by rw [hPP]; exact HB9.out)).below ((Below.refl _ W5).alloc (Nat.le_refl _) _)
          have hlm : (few1 x).kids.length = m := by
            have h := HU9.out.1
            rw [intCells_length] at h
            show (x.kids.take 60).length = m
            omega
          have hur : (W5.alloc (.cells #[.int .i64 x.kind, .string (cut50 x.text), .slice A9 m c9] tN)).ownsRow w.heap.size tI 1 (.slice A9 m c9) (few1 x).kids.length (intCells (few1 x).kids) := by
            rw [hlm]
            exact own_mono (HU9.out.alloc _) (by omega)
          obtain ⟨A8, c8, w8, hrun8, hN8, hgr8⟩ := push_node (x := few1 x) (g := W5.heap.size) (heap_alloc_new W5 _) hNr hur (by rw [HL.out]; omega) (by simp; omega)
          have hut5 : ∃ A5 c5, u3 = .slice A5 L.length c5 := by
            obtain ⟨A5, c5, e, _⟩ := hNr.holds
            exact ⟨A5, c5, e⟩
          obtain ⟨A5, c5, rfl⟩ := hut5
          have hBw8 : Below w.heap.size w w8 := (((hb.trans (HB9.out.mono hsz)).alloc (by omega) _).grown hgr8 (by simp; omega) (fun kk hkk => (hNr.row.lt kk hkk).1))
          have HN8 := Lib.hid hN8
          have HB8 := Lib.hid hBw8
          have HML : Hid ((L ++ [(few1 x, Value.slice A9 m c9)]).map Prod.fst = fewN (t.take (i + 1))) := Lib.hid (by
            rw [List.map_append]
            exact HM2.out)
          have HL9 : Hid ((L ++ [(few1 x, Value.slice A9 m c9)]).length = i + 1) := Lib.hid (by rw [List.length_append, HL.out]; rfl)
          clear hNr hur hN8 hBw8 hgr8 hlm
          refine wpTailZ_last rfl (fun K hK => ?_)
          go_wp2_with (at_builtin; go_must (refine wpList_append_run rfl _ _ 23 23 rfl rfl rfl hrun8 ?_))
          go_roundw
          case rel => exact ⟨i + 1, _, by go_num, by omega, by omega, HL9, HML, HN8, HB8⟩
          case measure => simp [intOf]; omega
      · obtain rfl : i = 60 := by omega
        have HML : Hid (L.map Prod.fst = fewN t) := Lib.hid (by rw [HM.out]; exact fewN_full (.inl (Nat.le_refl _)))
        go_wp2_with fail
        go_ret
        exact ⟨_, L, rfl, HML.out, HN.out, HB.out⟩
    · obtain rfl : i = t.length := by omega
      have HML : Hid (L.map Prod.fst = fewN t) := Lib.hid (by rw [HM.out]; exact fewN_full (.inr (Nat.le_refl _)))
      go_wp2_with fail
      go_ret
      exact ⟨_, L, rfl, HML.out, HN.out, HB.out⟩
end Go.Proofs.YtbcgdkhkljeomaaDoor
