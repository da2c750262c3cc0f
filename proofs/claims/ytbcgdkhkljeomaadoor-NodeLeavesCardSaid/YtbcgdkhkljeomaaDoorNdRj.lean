/-
  Joined trees: by the reference.
-/
import Derived.Test.YtbcgdkhkljeomaaDoorProg
import Derived.Test.YtbcgdkhkljeomaaDoorReg
import Derived.WalkKit
import Derived.WalkSpells
import Derived.WalkLawsBesides
import Derived.Lib.Hide
import Derived.Lib.MinMax
import Derived.Deep.QuietTactic
import Derived.BigQuiet
import Derived.OwnWalk
import Derived.Deep.AppendLies
import Derived.KernelRfl
import Derived.Test.YtbcgdkhkljeomaaDoorNdJo
import Derived.Test.YtbcgdkhkljeomaaDoorNdS
import Derived.Test.YtbcgdkhkljeomaaDoorNdF
set_option linter.unusedSimpArgs false
set_option linter.unusedVariables false
namespace Go.Proofs.YtbcgdkhkljeomaaDoor
open Go.RowKit

/-- Nodes are appended to nodes. -/
theorem push_nodes {W : World} {base : Nat} {v v2 : Value} {L L2 : List (Nd × Value)} (h : HasN W base v L) (h2 : HasN W base v2 L2) (hne : 0 < L2.length) (hl : L.length + L2.length ≤ 1000000) (hbase : base ≤ W.heap.size) :
    ∃ A c w', (Builtin.append_ #[23, 23] 23 #[v, v2]).run Tryd.prog W = .ok (.slice A (L.length + L2.length) c) w' ∧ HasN w' base (.slice A (L.length + L2.length) c) (L ++ L2) ∧ W.grownBy w' v.ownBlock := by
  obtain ⟨i0, hi0, hz0, hz1, hz2⟩ := info_parts infoNode
  obtain ⟨g, cap, cur, rfl, hg1, hg2, hg3, hg4, hg5, hg6⟩ : ∃ g cap cur, v2 = .slice (some ⟨g, 0, none⟩) L2.length cap ∧ base ≤ g ∧ W.heap[g]? = some (.cells cur tN (0, 0)) ∧ L2.length ≤ cap ∧ cap ≤ maxLen ∧ cur.size = cap * 3 ∧ cur.toList.take (L2.length * 3) = ndCells L2 := by
    rcases h2.row.2 with ⟨_, h0⟩ | h9
    · omega
    · exact h9
  obtain ⟨v', w', hr, ho, hgr, _⟩ := run_append_own (P := Tryd.prog) W base 23 23 tN i0 _ 3 48 Tryd.underlying23 hi0 hz0 hz1 hz2 rfl (by decide) v L.length (ndCells L) h.row ⟨g, 0, none⟩ L2.length cap (ndCells L2) (by rw [ndCells_length])
    (fun j u hj => by
      have hlt : j < L2.length * 3 := by
        have := (List.getElem?_eq_some_iff.1 hj).1
        rwa [ndCells_length] at this
      rw [addr_add0, Nat.zero_add]
      exact (h2.row.cellAt j hlt).trans hj)
    (fun u hu => by
      unfold ndCells at hu
      obtain ⟨p, hp, hu⟩ := List.mem_flatMap.1 hu
      obtain ⟨B, cB, eu, _, _, _⟩ := holdsI_of_own (h2.kids p hp)
      simp only [Nd.cells, List.mem_cons, List.not_mem_nil, or_false] at hu
      rcases hu with rfl | rfl | rfl
      · rfl
      · rfl
      · rw [eu]; rfl) (by unfold maxLen; omega) (by omega) hbase
  rw [← ndCells_append] at ho
  have hk : HasN w' base v' (L ++ L2) := by
    refine ⟨by rw [List.length_append]; exact ho, fun p hp => ?_⟩
    rcases List.mem_append.1 hp with hp | hp
    · exact (h.kids p hp).kept hgr (own_apart (h.kids p hp) h.row (by decide))
    · exact (h2.kids p hp).kept hgr (own_apart (h2.kids p hp) h.row (by decide))
  obtain ⟨A, c, rfl, _, _⟩ := hk.holds
  rw [List.length_append] at hr hk
  exact ⟨A, c, w', hr, hk, hgr⟩

set_option maxRecDepth 100000 in
set_option maxHeartbeats 8000000 in
theorem refJoin_any (kind : Int) (text : ByteArray) (l : List (List Nd)) (A : Option Addr) (c : Nat) (w : World) (hk : (Lit.int .i64 kind).wf = true) (hx : text.size ≤ 1000000) (hl : l.length ≤ 100) (hh : HoldsTs w A l) (ht : ∀ t ∈ l, t.length ≤ 800 ∧ IntN t) :
    Calls Tryd.prog 16 #[.int .i64 kind, .string text, .slice A l.length c] w fun e w' => JoinDone kind text l e w w' := by
  have HH := Lib.hid hh
  have HTr := Lib.hid ht
  clear hh ht
  go_enter Tryd.func16, Tryd.ntmps16
  go_wp2_with fail
  have hR0 : (w.alloc (.cells #[.int .i64 kind, .string text, .slice none 0 0] tN)).heap[w.heap.size]? = some (.cells #[.int .i64 kind, .string text, .slice none 0 0] tN (0, 0)) := heap_alloc_new _ _
  have hB0 : Below w.heap.size w (w.alloc (.cells #[.int .i64 kind, .string text, .slice none 0 0] tN)) := (Below.refl _ _).alloc (Nat.le_refl _) _
  have hz0 : w.heap.size + 1 ≤ (w.alloc (.cells #[.int .i64 kind, .string text, .slice none 0 0] tN)).heap.size := by simp
  generalize w.alloc (.cells #[.int .i64 kind, .string text, .slice none 0 0] tN) = W0 at *
  go_loopw [9, 10] (fun v s wr => ∃ (i : Nat) (kv : Value) (L : List (Nd × Value)) (Ks : List Int), s = .int .i64 i ∧ i ≤ l.length ∧ wr.heap[w.heap.size]? = some (.cells #[.int .i64 kind, .string text, kv] tN (0, 0)) ∧ Hid (HasN wr (w.heap.size + 1) v L) ∧ Hid (wr.ownsRow (w.heap.size + 1) tI 1 kv Ks.length (intCells Ks)) ∧ Hid (FarN kv L) ∧
      Hid (Below w.heap.size w wr) ∧ Hid (IntN (L.map Prod.fst)) ∧ Hid (L.length ≤ 800 * i ∧ Ks.length = i ∧ ∀ k ∈ Ks, -1 ≤ k ∧ k ≤ 1000000) ∧ Hid (joinGo [] [] l = joinGo (L.map Prod.fst) Ks (l.drop i)) ∧ w.heap.size + 1 ≤ wr.heap.size) (fun _ s _ => l.length - (intOf s).toNat)
  case atStart => exact ⟨0, _, [], [], rfl, Nat.zero_le _, hR0, Lib.hid (HasN.nil _ _), Lib.hid (World.ownsRow_nil _ _ _ _), Lib.hid (fun p hp => by simp at hp), Lib.hid hB0, Lib.hid (fun x hx => by simp at hx), Lib.hid ⟨by simp, rfl, fun k hk => by simp at hk⟩, Lib.hid rfl, hz0⟩
  case round =>
    clear hR0 hB0 hz0
    obtain ⟨i, kv, L, Ks, rfl, hi, hT, HN, HU, HF, HB, HIN, HQ, HJ, hsz⟩ := hrel
    by_cases hlt : i < l.length
    · have g := List.getElem?_eq_getElem hlt
      have hmem := List.getElem_mem hlt
      have HJ1 : Hid (joinGo [] [] l = if rightN l[i] then joinGo (L.map Prod.fst ++ movedN (L.map Prod.fst).length l[i]) (Ks ++ [((L.map Prod.fst ++ movedN (L.map Prod.fst).length l[i]).length : Int) - 1]) (l.drop (i + 1)) else none) := Lib.hid (by rw [HJ.out, drop_one g, joinGo_step])
      generalize l[i] = t at *
      obtain ⟨b, off, rfl, B, c2, c0, hHN, hc⟩ := HH.out i t g
      obtain ⟨ht8, htI⟩ := HTr.out t hmem
      obtain ⟨q1, q2, q3⟩ := HQ.out
      have lb : b < w.heap.size := cell_lt c0
      have d0 := (HB.out.cell (p := ⟨b, _, none⟩) lb).trans c0
      have HHN := Lib.hid hHN
      have HC0 := Lib.hid c0
      have HRr := Lib.hid (refRight_any t B c2 wr (hHN.below HB.out) htI)
      have HTI := Lib.hid htI
      clear c0 hHN g hmem htI HJ
      cases hr : rightN t with
      | false =>
        rw [hr] at HJ1 HRr
        have HJN : Hid (joinN kind text l = none) := Lib.hid (by unfold joinN; rw [HJ1.out]; rfl)
        clear hr HJ1
        go_wp2_with fail
        refine HRr.out.mono ?_
        rintro e w1 ⟨rfl, hb1⟩
        have hBw : Below w.heap.size w w1 := HB.out.trans (hb1.mono HB.out.size)
        go_wp2_with fail
        go_ret2
        exact ⟨by rw [HJN.out]; rfl, hBw⟩
      | true =>
        rw [hr] at HJ1 HRr
        have hpos : 0 < t.length := (rightN_parts hr).1
        have hks := kids_small hr
        have HIM := Lib.hid (HTI.out.moved (by_ := (L.length : Int)) hr (by omega) (by omega))
        have HMV := Lib.hid (fun W hW => moved_any t L.length B c2 W hW HTI.out (by omega) (by omega) (by omega) (fun x hx k hk => by have := hks x hx k hk; omega))
        obtain ⟨A5, c5, rfl, _, _⟩ := HN.out.holds
        clear hr hks
        go_wp2_with fail
        refine HRr.out.mono ?_
        rintro e w1 ⟨rfl, hb1⟩
        have d1 := (hb1.cell (p := ⟨b, off + i, none⟩) (by show b < wr.heap.size; omega)).trans d0
        have hB1 : Below w.heap.size w w1 := HB.out.trans (hb1.mono HB.out.size)
        have hM := Lib.hid (HMV.out w1 (HHN.out.below hB1))
        go_wp2_with fail
        refine hM.out.mono ?_
        rintro e w2 ⟨v2, L2, rfl, hm2, hN2, hb2⟩
        have hs1 : w.heap.size + 1 ≤ w1.heap.size := by have := hb1.size; omega
        have hs2 : w1.heap.size ≤ w2.heap.size := hb2.size
        have hL2 : L2.length = t.length := by
          have h := congrArg List.length hm2
          rwa [List.length_map, moved_len] at h
        have hNa : HasN w2 (w.heap.size + 1) (.slice A5 L.length c5) L := (HN.out.below hb1).below hb2
        obtain ⟨A6, c6, w3, hrunA, hN3, hgr3⟩ := push_nodes hNa (hN2.mono hs1) (by omega) (by omega) (by omega)
        have hkv2 := own_below (own_below HU.out hb1) hb2
        have hkv3 := hkv2.kept hgr3 (own_apart hkv2 hNa.row (by decide))
        have hT2 := (hb2.block w.heap.size (by omega)).trans ((hb1.block w.heap.size (by omega)).trans hT)
        have hT3 := (hgr3.block w.heap.size (by omega) (fun e => by have := (hNa.row.lt _ e.symm).1; omega)).trans hT2
        have hf3 : FarN kv (L ++ L2) := fun p hp gg hg e => by
          rcases List.mem_append.1 hp with hp | hp
          · exact HF.out p hp gg hg e
          · have h1 := ((hN2.kids p hp).lt gg hg).1
            have h2 := (HU.out.lt gg e).2
            have h3 := hb1.size
            omega
        have hB3 : Below w.heap.size w w3 := (hB1.trans (hb2.mono (by omega))).grown hgr3 (by omega) (fun kk hkk => by have := (hNa.row.lt kk hkk).1; omega)
        obtain ⟨Ak, ck, rfl, _, _, _⟩ := holdsI_of_own hkv3
        have hnl : L.length + L2.length ≤ 100000 := by omega
        have hll : (L ++ L2).length = L.length + L2.length := List.length_append
        have hN3' := hN3
        generalize hnn : L.length + L2.length = nn at *
        have hgN : (w3.alloc (.cells #[.int .i64 ((nn : Int) - 1)] tI)).heap[w3.heap.size]? = some (.cells #[.int .i64 ((nn : Int) - 1)] tI (0, 0)) := heap_alloc_new w3 _
        have hBA : Below w3.heap.size w3 (w3.alloc (.cells #[.int .i64 ((nn : Int) - 1)] tI)) := (Below.refl _ w3).alloc (Nat.le_refl _) _
        have hs3 : w.heap.size + 1 ≤ w3.heap.size := by have := hgr3.size; omega
        have hkvA := own_below hkv3 hBA
        obtain ⟨A9, c9, w9, hrunB, hkv9, hgr9, hat9⟩ := push_int (x := (nn : Int) - 1) hgN hkvA (by omega) (by simp; omega)
        have hTne : (Value.slice Ak Ks.length ck).ownBlock ≠ some w.heap.size := own_apart_cells hkv3 hT3 (by decide)
        have hv9 := (hN3.below hBA).far hkvA hf3 hgr9
        have hf9 := FarN.next (hN3.below hBA) hf3 hat9
        have hT9 : w9.heap[w.heap.size]? = some (.cells #[.int .i64 kind, .string text, .slice Ak Ks.length ck] tN (0, 0)) := (hgr9.block _ (by simp; omega) (fun e => hTne e.symm)).trans ((hBA.block _ (by omega)).trans hT3)
        have hT10 : (w9.setCell ⟨w.heap.size, 2, none⟩ (.slice A9 (Ks.length + 1) c9)).heap[w.heap.size]? = some (.cells #[.int .i64 kind, .string text, .slice A9 (Ks.length + 1) c9] tN (0, 0)) := by
          rw [heap_setCell_same w9 _ 2 _ _ _ hT9]
          simp
        have hv10 : HasN (w9.setCell ⟨w.heap.size, 2, none⟩ (.slice A9 (Ks.length + 1) c9)) (w.heap.size + 1) (.slice A6 nn c6) (L ++ L2) :=
          ⟨ownsRow_setCell_other hv9.row (fun e => by have := (hv9.row.lt _ e).1; simp at this; omega) _, fun p hp => ownsRow_setCell_other (hv9.kids p hp) (fun e => by have := ((hv9.kids p hp).lt _ e).1; simp at this; omega) _⟩
        have hkv10 := ownsRow_setCell_other hkv9 (fun e => own_apart_cells hkv9 hT9 (by decide) e) (a := ⟨w.heap.size, 2, none⟩) (.slice A9 (Ks.length + 1) c9)
        have hB10 : Below w.heap.size w (w9.setCell ⟨w.heap.size, 2, none⟩ (.slice A9 (Ks.length + 1) c9)) := (((hB3.trans (hBA.mono (by omega))).grown hgr9 (by simp; omega) (fun kk hkk => by have := (hkv3.lt kk hkk).1; omega)).setCell (p := ⟨w.heap.size, 2, none⟩) (Nat.le_refl _) _)
        have hs10 : w.heap.size + 1 ≤ (w9.setCell ⟨w.heap.size, 2, none⟩ (.slice A9 (Ks.length + 1) c9)).heap.size := by have := hgr9.size; simp at this ⊢; omega
        have hw3 : IntKind.i64.wrap ((nn : Int) - 1) = (nn : Int) - 1 := IntWalk.i64_in _ (by omega)
        have s1 : w3.cell? ⟨w.heap.size, 2, none⟩ = some (.slice Ak Ks.length ck) := by rw [cell_of_row0 hT3]; rfl
        have a1 : (w3.alloc (.cells #[.int .i64 ((nn : Int) - 1)] tI)).cell? ⟨w.heap.size, 2, none⟩ = some (.slice Ak Ks.length ck) := (World.cell?_alloc_lt _ _ _ (show w.heap.size < w3.heap.size by omega)).trans s1
        have b1 : w9.cell? ⟨w.heap.size, 2, none⟩ = some (.slice Ak Ks.length ck) := by rw [cell_of_row0 hT9]; rfl
        have b2 : w9.frozen? ⟨w.heap.size, 2, none⟩ = false := frozen_of_row w9 _ 2 _ _ hT9
        obtain ⟨A7, c7, rfl, _, _⟩ := hN2.holds
        have hmap : (L ++ L2).map Prod.fst = L.map Prod.fst ++ movedN (L.map Prod.fst).length t := by rw [List.map_append, hm2, List.length_map]
        have hll2 : (L.map Prod.fst ++ movedN (L.map Prod.fst).length t).length = nn := by rw [← hmap, List.length_map]; exact hll
        have HJ2 : Hid (joinGo [] [] l = joinGo ((L ++ L2).map Prod.fst) (Ks ++ [(nn : Int) - 1]) (l.drop (i + 1))) := Lib.hid (by rw [HJ1.out, hmap, hll2]; rfl)
        have HIN2 : Hid (IntN ((L ++ L2).map Prod.fst)) := Lib.hid (by rw [List.map_append, hm2]; exact HIN.out.append HIM.out)
        have HQ2 : Hid ((L ++ L2).length ≤ 800 * (i + 1) ∧ (Ks ++ [(nn : Int) - 1]).length = i + 1 ∧ ∀ k ∈ Ks ++ [(nn : Int) - 1], -1 ≤ k ∧ k ≤ 1000000) := Lib.hid (by
          refine ⟨by omega, by rw [List.length_append, q2]; rfl, fun k hk => ?_⟩
          rcases List.mem_append.1 hk with hk | hk
          · exact q3 k hk
          · rw [List.mem_singleton.1 hk]; omega)
        have HT10 := Lib.hid hT10
        have HV10 := Lib.hid hv10
        have HK10 : Hid ((w9.setCell ⟨w.heap.size, 2, none⟩ (.slice A9 (Ks.length + 1) c9)).ownsRow (w.heap.size + 1) tI 1 (.slice A9 (Ks.length + 1) c9) (Ks ++ [(nn : Int) - 1]).length (intCells (Ks ++ [(nn : Int) - 1]))) := Lib.hid hkv10
        have HB10 := Lib.hid hB10
        have HF9 := Lib.hid hf9
        have HS10 := Lib.hid hs10
        clear hT10 hv10 hkv10 hB10 hv9 hkv9 hgr9 hat9 hf9 hkvA hBA hgN hf3 hkv3 hkv2 hT2 hT3 hT9 hN3 hN3' hgr3 hNa hN2 hm2 hll hll2 hmap hL2 q1 q2 q3 hs10 hTne hb1 hb2
        go_wp2_with (at_builtin; go_must (first | refine wpList_append_run rfl _ _ 23 23 rfl rfl rfl hrunA ?_ | refine wpList_append_run rfl _ _ 35 35 rfl rfl rfl hrunB ?_))
        go_roundw
        case rel => exact ⟨i + 1, _, L ++ L2, _, by go_num, by omega, HT10.out, HV10, HK10, HF9, HB10, HIN2, HQ2, HJ2, HS10.out⟩
        case measure => simp [intOf]; omega
    · obtain rfl : i = l.length := by omega
      obtain ⟨q1, q2, q3⟩ := HQ.out
      have HJ1 : Hid (joinN kind text l = if rightN (L.map Prod.fst ++ [⟨kind, text, Ks⟩]) then some (L.map Prod.fst ++ [⟨kind, text, Ks⟩]) else none) := Lib.hid (by
        unfold joinN
        rw [HJ.out, List.drop_of_length_le (Nat.le_refl _)]
        rfl)
      clear HJ
      obtain ⟨Ak, ck, rfl, _, _, _⟩ := holdsI_of_own HU.out
      obtain ⟨A5, c5, rfl, _, _⟩ := HN.out.holds
      have hgN : (wr.alloc (.cells #[.int .i64 kind, .string text, .slice Ak Ks.length ck] tN)).heap[wr.heap.size]? = some (.cells #[.int .i64 kind, .string text, .slice Ak Ks.length ck] tN (0, 0)) := heap_alloc_new wr _
      have hBA : Below wr.heap.size wr (wr.alloc (.cells #[.int .i64 kind, .string text, .slice Ak Ks.length ck] tN)) := (Below.refl _ wr).alloc (Nat.le_refl _) _
      obtain ⟨A9, c9, w9, hrun, hN9, hgr9⟩ := push_node (x := ⟨kind, text, Ks⟩) hgN (HN.out.below hBA) (own_below HU.out hBA) (by omega) (by simp; omega)
      have hB9 : Below w.heap.size w w9 := (((HB.out.trans (hBA.mono HB.out.size))).grown hgr9 (by simp; omega) (fun kk hkk => by have := (HN.out.row.lt kk hkk).1; omega))
      have hIO : IntN (L.map Prod.fst ++ [⟨kind, text, Ks⟩]) := HIN.out.append (fun x hx' => by
        rw [List.mem_singleton.1 hx']
        exact ⟨hk, by simp; omega, hx, fun k hk' => by have := q3 k hk'; exact wf_small (by omega) (by omega)⟩)
      have hho : HoldsN w9 A9 (L.map Prod.fst ++ [⟨kind, text, Ks⟩]) := by
        obtain ⟨A8, c8, e8, h8, _⟩ := hN9.holds
        rw [List.length_append, List.length_singleton] at e8
        cases e8
        rw [List.map_append] at h8
        exact h8
      have HRt := Lib.hid (refRight_any (L.map Prod.fst ++ [⟨kind, text, Ks⟩]) A9 c9 _ hho hIO)
      have hlo : (L.map Prod.fst ++ [(⟨kind, text, Ks⟩ : Nd)]).length = L.length + 1 := by simp
      rw [hlo] at HRt
      have HMF : Hid ((L ++ [((⟨kind, text, Ks⟩ : Nd), Value.slice Ak Ks.length ck)]).map Prod.fst = L.map Prod.fst ++ [⟨kind, text, Ks⟩]) := Lib.hid (by rw [List.map_append]; rfl)
      have s0 : wr.cell? ⟨w.heap.size, 0, none⟩ = some (.int .i64 kind) := by rw [cell_of_row0 hT]; rfl
      have s1 : wr.cell? ⟨w.heap.size, 1, none⟩ = some (.string text) := by rw [cell_of_row0 hT]; rfl
      have s2 : wr.cell? ⟨w.heap.size, 2, none⟩ = some (.slice Ak Ks.length ck) := by rw [cell_of_row0 hT]; rfl
      have HN9 := Lib.hid (hN9.mono (show w.heap.size ≤ w.heap.size + 1 by omega))
      have HB9 := Lib.hid hB9
      clear hN9 hB9 hgr9 hgN hBA hho hIO hlo hT HN HU HF HIN HQ q1 q2 q3
      go_wp2_with (at_builtin; go_must (refine wpList_append_run rfl _ _ 23 23 rfl rfl rfl hrun ?_))
      refine HRt.out.mono ?_
      rintro e w5 ⟨rfl, hb5⟩
      have hB5 : Below w.heap.size w w5 := HB9.out.trans (hb5.mono HB9.out.size)
      cases hro : rightN (L.map Prod.fst ++ [⟨kind, text, Ks⟩]) with
      | true =>
        have HJ5 : Hid (joinN kind text l = some (L.map Prod.fst ++ [⟨kind, text, Ks⟩])) := Lib.hid (by rw [HJ1.out, hro]; rfl)
        have HN5 : Hid (HasN w5 w.heap.size (.slice A9 (L.length + 1) c9) (L ++ [((⟨kind, text, Ks⟩ : Nd), Value.slice Ak Ks.length ck)])) := Lib.hid (HN9.out.below hb5)
        clear hro
        go_wp2_with fail
        go_ret2
        refine ⟨?_, hB5⟩
        rw [HJ5.out]
        exact ⟨_, _, rfl, HN5.out, HMF.out⟩
      | false =>
        have HJ5 : Hid (joinN kind text l = none) := Lib.hid (by rw [HJ1.out, hro]; rfl)
        clear hro
        go_wp2_with fail
        go_ret2
        exact ⟨by rw [HJ5.out]; rfl, hB5⟩
end Go.Proofs.YtbcgdkhkljeomaaDoor
