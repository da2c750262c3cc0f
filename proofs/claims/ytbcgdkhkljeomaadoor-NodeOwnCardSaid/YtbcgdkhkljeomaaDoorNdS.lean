/-
  Nodes, their kids' places so much greater: by the reference.
-/
import Derived.Test.YtbcgdkhkljeomaaDoorProg
import Derived.Test.YtbcgdkhkljeomaaDoorReg
import Derived.WalkKit
import Derived.WalkSpells
import Derived.WalkLawsBesides
import Derived.Lib.Hide
import Derived.Lib.MinMax
import Derived.Deep.QuietTactic
import Derived.BigQuiet
import Derived.OwnWalk
import Derived.Deep.AppendLies
import Derived.KernelRfl
import Derived.Lib.Builder
import Derived.OneCell
import Derived.Test.YtbcgdkhkljeomaaDoorRegZ
import Derived.Test.YtbcgdkhkljeomaaDoorNdR
set_option linter.unusedSimpArgs false
set_option linter.unusedVariables false
namespace Go.Proofs.YtbcgdkhkljeomaaDoor
open Go.RowKit

theorem cell_of_row0 {w : World} {k : Nat} {cs : Array Value} {t : TypeId} {fr : Nat × Nat} (h : w.heap[k]? = some (.cells cs t fr)) (j : Nat) : w.cell? ⟨k, j, none⟩ = cs[j]? := by simp [World.cell?, h]

set_option maxRecDepth 100000 in
set_option maxHeartbeats 8000000 in
theorem moved_any (t : List Nd) (by_ : Int) (A : Option Addr) (c : Nat) (w : World) (hh : HoldsN w A t) (hi : IntN t) (hn : t.length ≤ 1000) (hb1 : -1000000 ≤ by_) (hb2 : by_ ≤ 1000000) (hk : ∀ x ∈ t, ∀ k ∈ x.kids, -1000000 ≤ k ∧ k ≤ 1000000) :
    Calls Tryd.prog 30 #[.slice A t.length c, .int .i64 by_] w fun e w' => ∃ v L, e = .returned v ∧ L.map Prod.fst = movedN by_ t ∧ HasN w' w.heap.size v L ∧ Below w.heap.size w w' := by
  have HH := Lib.hid hh
  have HI := Lib.hid hi
  have HK := Lib.hid hk
  clear hh hi hk
  go_enter Tryd.func30, Tryd.ntmps30
  go_wp2_with fail
  go_loopw [5, 6] (fun v s wr => ∃ (i : Nat) (L : List (Nd × Value)), s = .int .i64 i ∧ i ≤ t.length ∧ L.length = i ∧ Hid (L.map Prod.fst = movedN by_ (t.take i)) ∧ Hid (HasN wr w.heap.size v L) ∧ Hid (Below w.heap.size w wr)) (fun _ s _ => t.length - (intOf s).toNat)
  case atStart => exact ⟨0, [], rfl, Nat.zero_le _, rfl, Lib.hid rfl, Lib.hid (HasN.nil _ _), Lib.hid (Below.refl _ _)⟩
  case round =>
    obtain ⟨i, L, rfl, hi, hL, HM, HN, HB⟩ := hrel
    by_cases hlt : i < t.length
    · have g := List.getElem?_eq_getElem hlt
      have hmem := List.getElem_mem hlt
      have HM2 : Hid (∀ y : Nd, y = ⟨(t[i]).kind, (t[i]).text, (t[i]).kids.map (· + by_)⟩ → (L.map Prod.fst) ++ [y] = movedN by_ (t.take (i + 1))) := Lib.hid (fun y hy => by rw [HM.out, take_one g, hy]; unfold movedN; rw [List.map_append]; rfl)
      generalize t[i] = x at *
      obtain ⟨b, off, rfl, c0, c1, B, c2, c3, hK, hc⟩ := HH.out i x g
      obtain ⟨z1, z2, z3, z4⟩ := HI.out x hmem
      have HKB := Lib.hid (HK.out x hmem)
      have lb : b < w.heap.size := cell_lt c0
      have hb := HB.out
      have hsz := hb.size
      have d0 := (hb.cell (p := ⟨b, _, none⟩) lb).trans c0
      have d1 := (hb.cell (p := ⟨b, _, none⟩) lb).trans c1
      have HC3 := Lib.hid c3
      have HKx := Lib.hid hK
      have lt1 : b < wr.heap.size := by omega
      clear c0 c1 c3 hK g hmem z4 z1
      go_wp2_with fail
      go_region
      have hr0 : (wr.alloc (.cells #[.int .i64 x.kind, .string x.text, .slice none 0 0] tN)).drew.heap[wr.heap.size]? = some (.cells #[.int .i64 x.kind, .string x.text, .slice none 0 0] tN (0, 0)) := heap_alloc_new _ _
      have hN0 : HasN (wr.alloc (.cells #[.int .i64 x.kind, .string x.text, .slice none 0 0] tN)).drew w.heap.size u5 L := HN.out.below (((Below.refl _ wr).alloc (Nat.le_refl _) _).drew)
      have hB0 : Below w.heap.size w (wr.alloc (.cells #[.int .i64 x.kind, .string x.text, .slice none 0 0] tN)).drew := (hb.alloc hsz _).drew
      have hz0 : wr.heap.size + 1 = (wr.alloc (.cells #[.int .i64 x.kind, .string x.text, .slice none 0 0] tN)).drew.heap.size := by simp
      have hlow : Below wr.heap.size wr (wr.alloc (.cells #[.int .i64 x.kind, .string x.text, .slice none 0 0] tN)).drew := ((Below.refl _ wr).alloc (Nat.le_refl _) _).drew
      have HN1 := HN
      go_wp2_with fail
      have HXW := Lib.hid (rfl : x.kids = x.kids)
      generalize (wr.alloc (.cells #[.int .i64 x.kind, .string x.text, .slice none 0 0] tN)).drew = W0 at *
      generalize hWR : wr = V at *
      generalize hPP : V.heap.size = P at *
      clear d0 d1 HN HB
      generalize hks : x.kids = ks at *
      go_loopw [8] (fun v wr => ∃ (q : Nat) (u : Value), v = .int .i64 q ∧ q ≤ ks.length ∧ wr.heap[P]? = some (.cells #[.int .i64 x.kind, .string x.text, u] tN (0, 0)) ∧ Hid (wr.ownsRow (P + 1) tI 1 u (((ks.take q).map (· + by_)).length) (intCells ((ks.take q).map (· + by_)))) ∧ Hid (Below P V wr) ∧ P + 1 ≤ wr.heap.size) (fun v _ => ks.length - (intOf v).toNat)
      case atStart => exact ⟨0, .slice none 0 0, rfl, Nat.zero_le _, hr0, Lib.hid (World.ownsRow_nil _ _ _ _), Lib.hid hlow, by omega⟩
      case round =>
        clear hr0 hN0 hB0 hz0 hlow
        obtain ⟨q, u, rfl, hq, hrow, HU, HB, hP1⟩ := hrel
        have hBw : Below w.heap.size w wr := hb.trans (HB.out.mono hsz)
        have d2 := (hBw.cell (p := ⟨b, _, none⟩) lb).trans HC3.out
        by_cases hlt2 : q < ks.length
        · have g2 := List.getElem?_eq_getElem hlt2
          have HM2 := Lib.hid (take_one g2)
          have hkb := HKB.out _ (List.getElem_mem hlt2)
          obtain ⟨b2, off2, rfl, e0⟩ := HKx.out q _ g2
          have e1 := (hBw.cell (p := ⟨b2, _, none⟩) (cell_lt e0)).trans e0
          have lb2 : b2 < wr.heap.size := cell_lt e1
          have lb1 : b < wr.heap.size := by omega
          generalize ks[q] = k at *
          have hlen : ((ks.take q).map (· + by_)).length = q := by simp; omega
          have hUx := HU.out
          have hut : ∃ A' c', u = .slice A' q c' := by
            obtain ⟨A', c', e, _⟩ := holdsI_of_own hUx
            rw [hlen] at e
            exact ⟨A', c', e⟩
          obtain ⟨A', c', rfl⟩ := hut
          have hg9 : (wr.alloc (.cells #[.int .i64 (k + by_)] tI)).drew.heap[wr.heap.size]? = some (.cells #[.int .i64 (k + by_)] tI (0, 0)) := heap_alloc_new _ _
          obtain ⟨A9, c9, w9, hrun, hown9, hgr9, _⟩ := push_int (x := k + by_) hg9 ((hUx.alloc _).drew) (by omega) (by simp; omega)
          rw [hlen] at hrun hown9
          have hw3 : IntKind.i64.wrap (k + by_) = k + by_ := IntWalk.i64_in _ (by omega)
          have hPu : (Value.slice A' q c').ownBlock ≠ some P := own_apart_cells hUx hrow (by decide)
          have hrow9 : w9.heap[P]? = some (.cells #[.int .i64 x.kind, .string x.text, .slice A' q c'] tN (0, 0)) :=
            (hgr9.block P (by simp; omega) (fun e => hPu e.symm)).trans ((Lib.alloc_old wr _ P (by omega)).trans hrow)
          have f1 : w9.cell? ⟨P, 2, none⟩ = some (.slice A' q c') := by rw [cell_of_row0 hrow9]; rfl
          have f0 : wr.cell? ⟨P, 2, none⟩ = some (.slice A' q c') := by rw [cell_of_row0 hrow]; rfl
          have f2 : w9.frozen? ⟨P, 2, none⟩ = false := frozen_of_row w9 _ 2 _ _ hrow9
          have ltP : P < wr.heap.size := by omega
          have hrow10 := heap_setCell_same w9 P 2 _ _ (.slice A9 (q + 1) c9) hrow9
          have hBq : Below P V ((w9.setCell ⟨P, 2, none⟩ (.slice A9 (q + 1) c9))) := ((((HB.out.alloc (by omega) _).drew).grown hgr9 (by simp; omega) (fun kk hkk => by have := (hUx.lt kk hkk).1; omega)).setCell (p := ⟨P, 2, none⟩) (Nat.le_refl _) _)
          have hUq : (w9.setCell ⟨P, 2, none⟩ (.slice A9 (q + 1) c9)).ownsRow (P + 1) tI 1 (.slice A9 (q + 1) c9) (((ks.take (q + 1)).map (· + by_)).length) (intCells ((ks.take (q + 1)).map (· + by_))) := by
            rw [HM2.out, List.map_append]
            refine ownsRow_setCell_other ?_ (fun e => (own_apart_cells hown9 hrow9 (by decide)) e) _
            have h := hown9
            rw [List.length_append, hlen] at h ⊢
            exact h
          have HUq := Lib.hid hUq
          have HS5 : Hid (w9.cell? ⟨b, off + i * 3 + 2, none⟩ = some (.slice (some ⟨b2, off2, none⟩) ks.length c2)) := Lib.hid ((hgr9.cell_far ⟨b, off + i * 3 + 2, none⟩ (by simp; omega) (fun e => by have := (hUx.lt b e.symm).1; omega)).trans ((World.cell?_alloc_lt _ _ _ lb1).trans d2))
          have HS6 : Hid (w9.cell? ⟨b2, off2 + q, none⟩ = some (.int .i64 k)) := Lib.hid ((hgr9.cell_far ⟨b2, off2 + q, none⟩ (by simp; omega) (fun e => by have := (hUx.lt b2 e.symm).1; have := cell_lt e0; simp at this; omega)).trans ((World.cell?_alloc_lt _ _ _ lb2).trans e1))
          have HBq := Lib.hid hBq
          have hsz9 : P + 1 ≤ (w9.setCell ⟨P, 2, none⟩ (.slice A9 (q + 1) c9)).heap.size := by
            have := hgr9.size
            simp at this ⊢
            omega
          clear hUx hBw HU hown9 hgr9 hUq hBq hg9 hlen hPu g2 e0 hrow
          go_wp2_with fail
          refine wp_region_ordz (S := fun w' => w'.cell? ⟨P, 2, none⟩ = some (.slice A' q c') ∧ w'.cell? ⟨b, off + i * 3 + 2, none⟩ = some (.slice (some ⟨b2, off2, none⟩) ks.length c2) ∧ w'.cell? ⟨b2, off2 + q, none⟩ = some (.int .i64 k)) [0, 1, 2, 3, 4, 5, 6, 7, 8, 9, 10, 11] [12, 13, 14, 15] 15 (by kernel_rfl) (by kernel_rfl) (fun _ _ _ _ _ h => h) ⟨f0, d2, e1⟩ ?_
          simp only [pick, List.filterMap_cons, List.filterMap_nil, List.getElem?_toArray, List.getElem?_cons_zero, List.getElem?_cons_succ]
          repeat (refine wpHead_step (v := ?_) rfl ?_ ?_; rotate_left; (focus (rintro w1 ⟨f0, d2, e1⟩; go_simp; try with_reducible rfl)); simp only [Act.put, List.setIfInBounds_toArray, List.set_cons_zero, List.set_cons_succ])
          refine wpHead_nil ?_
          have s0 : (wr.alloc (.cells #[.int .i64 (k + by_)] tI)).drew.cell? ⟨P, 2, none⟩ = some (.slice A' q c') := (World.cell?_alloc_lt _ _ _ ltP).trans f0
          have s1 : (wr.alloc (.cells #[.int .i64 (k + by_)] tI)).drew.cell? ⟨b, off + i * 3 + 2, none⟩ = some (.slice (some ⟨b2, off2, none⟩) ks.length c2) := (World.cell?_alloc_lt _ _ _ lb1).trans d2
          have s2 : (wr.alloc (.cells #[.int .i64 (k + by_)] tI)).drew.cell? ⟨b2, off2 + q, none⟩ = some (.int .i64 k) := (World.cell?_alloc_lt _ _ _ lb2).trans e1
          refine wpTailZ_step rfl (fun K hK => ?_)
          go_wp2_with fail
          refine hK _ _ ⟨s0, s1, s2⟩ ?_
          clear hK K
          try simp only [Act.put, List.setIfInBounds_toArray, List.set_cons_zero, List.set_cons_succ]
          refine wpTailZ_step rfl (fun K hK => ?_)
          refine wp_append_run _ _ 35 35 rfl rfl rfl hrun ?_
          refine hK _ _ ⟨f1, HS5.out, HS6.out⟩ ?_
          clear hK K
          try simp only [Act.put, List.setIfInBounds_toArray, List.set_cons_zero, List.set_cons_succ]
          refine wpTailZ_step rfl (fun K hK => ?_)
          go_wp2_with fail
          refine hK _ _ ⟨f1, HS5.out, HS6.out⟩ ?_
          clear hK K
          try simp only [Act.put, List.setIfInBounds_toArray, List.set_cons_zero, List.set_cons_succ]
          refine wpTailZ_last rfl (fun K hK => ?_)
          go_wp2_with fail
          go_roundw
          case rel => exact ⟨q + 1, .slice A9 (q + 1) c9, by go_num, by omega, hrow10, HUq, HBq, hsz9⟩
          case measure => simp [intOf]; omega
        · obtain rfl : q = ks.length := by omega
          have hUx := HU.out
          rw [List.take_of_length_le (Nat.le_refl _)] at hUx
          have hlen : (ks.map (· + by_)).length = ks.length := by simp
          have hut : ∃ A' c', u = .slice A' ks.length c' := by
            obtain ⟨A', c', e, _⟩ := holdsI_of_own hUx
            rw [hlen] at e
            exact ⟨A', c', e⟩
          obtain ⟨A', c', rfl⟩ := hut
          have e0 : wr.cell? ⟨P, 0, none⟩ = some (.int .i64 x.kind) := by rw [cell_of_row0 hrow]; rfl
          have e1 : wr.cell? ⟨P, 1, none⟩ = some (.string x.text) := by rw [cell_of_row0 hrow]; rfl
          have e2 : wr.cell? ⟨P, 2, none⟩ = some (.slice A' ks.length c') := by rw [cell_of_row0 hrow]; rfl
          have hNr : HasN (wr.alloc (.cells #[.int .i64 x.kind, .string x.text, .slice A' ks.length c'] tN)) w.heap.size u5 L := (HN1.out.below (by rw [hPP]; exact HB.out)).below ((Below.refl _ wr).alloc (Nat.le_refl _) _)
          have hur : (wr.alloc (.cells #[.int .i64 x.kind, .string x.text, .slice A' ks.length c'] tN)).ownsRow w.heap.size tI 1 (.slice A' ks.length c') (ks.map (· + by_)).length (intCells (ks.map (· + by_))) := own_mono (hUx.alloc _) (by omega)
          obtain ⟨A9, c9, w9, hrun, hN9, hgr9⟩ := push_node (x := ⟨x.kind, x.text, ks.map (· + by_)⟩) (g := wr.heap.size) (heap_alloc_new wr _) hNr hur (by omega) (by simp; omega)
          have hut5 : ∃ A5 c5, u5 = .slice A5 L.length c5 := by
            obtain ⟨A5, c5, e, _⟩ := hNr.holds
            exact ⟨A5, c5, e⟩
          obtain ⟨A5, c5, rfl⟩ := hut5
          have hBw9 : Below w.heap.size w w9 := ((hBw.alloc (by omega) _).grown hgr9 (by simp; omega) (fun kk hkk => (hNr.row.lt kk hkk).1))
          rw [hL] at hN9
          have HN9 := Lib.hid hN9
          have HB9 := Lib.hid hBw9
          have HML : Hid ((L ++ [((⟨x.kind, x.text, ks.map (· + by_)⟩ : Nd), Value.slice A' ks.length c')]).map Prod.fst = movedN by_ (t.take (i + 1))) := Lib.hid (by
            rw [List.map_append]
            exact HM2.out _ rfl)
          have hL9 : (L ++ [((⟨x.kind, x.text, ks.map (· + by_)⟩ : Nd), Value.slice A' ks.length c')]).length = i + 1 := by rw [List.length_append, hL]; rfl
          clear hNr hur hN9 hBw9 hgr9 hUx HU hlen hBw
          go_wp2_with (at_builtin; go_must (refine wpList_append_run rfl _ _ 23 23 rfl rfl rfl hrun ?_))
          go_roundw
          case rel => exact ⟨i + 1, _, by go_num, by omega, hL9, HML, HN9, HB9⟩
          case measure => simp [intOf]; omega
    · obtain rfl : i = t.length := by omega
      have HML : Hid (L.map Prod.fst = movedN by_ t) := Lib.hid (by have h := HM.out; rwa [List.take_of_length_le (Nat.le_refl _)] at h)
      go_wp2_with fail
      go_ret
      exact ⟨_, L, rfl, HML.out, HN.out, HB.out⟩
end Go.Proofs.YtbcgdkhkljeomaaDoor
