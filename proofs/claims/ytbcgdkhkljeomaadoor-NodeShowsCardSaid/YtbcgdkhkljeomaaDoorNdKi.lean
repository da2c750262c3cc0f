/-
  A kid's tree is added: by the program.
-/
import Derived.Test.YtbcgdkhkljeomaaDoorProg
import Derived.Test.YtbcgdkhkljeomaaDoorReg
import Derived.WalkKit
import Derived.WalkSpells
import Derived.WalkLawsBesides
import Derived.Lib.Hide
import Derived.Lib.MinMax
import Derived.Deep.QuietTactic
import Derived.BigQuiet
import Derived.OwnWalk
import Derived.Deep.AppendLies
import Derived.KernelRfl
import Derived.Test.YtbcgdkhkljeomaaDoorNdAd
import Derived.Test.YtbcgdkhkljeomaaDoorNdJ
set_option linter.unusedSimpArgs false
set_option linter.unusedVariables false
namespace Go.Proofs.YtbcgdkhkljeomaaDoor
open Go.RowKit

abbrev tBd : TypeId := 50
/-- The slice kv shares no list with the kids of L. -/
def FarN (kv : Value) (L : List (Nd × Value)) : Prop := ∀ p ∈ L, ∀ g, p.2.ownBlock = some g → kv.ownBlock ≠ some g
theorem HasN.far {w w' : World} {base : Nat} {v kv : Value} {L : List (Nd × Value)} (h : HasN w base v L) {b : Nat} {n : Nat} {xs : List Value} (hk : w.ownsRow b tI 1 kv n xs) (hf : FarN kv L) (hg : w.grownBy w' kv.ownBlock) : HasN w' base v L :=
  ⟨h.row.kept hg (own_apart h.row hk (by decide)), fun p hp => (h.kids p hp).kept hg (by
    cases he : p.2.ownBlock with
    | none => exact .inl rfl
    | some g => exact .inr (fun e => hf p hp g he e.symm))⟩
theorem FarN.next {w : World} {base : Nat} {v kv kv' : Value} {L : List (Nd × Value)} (h : HasN w base v L) (hf : FarN kv L) (hat : kv'.ownBlock = kv.ownBlock ∨ kv'.ownBlock = some w.heap.size) : FarN kv' L := fun p hp g hg e => by
  rcases hat with h1 | h1
  · exact hf p hp g hg (h1.symm.trans e)
  · rw [h1] at e
    simp at e
    subst e
    have := ((h.kids p hp).lt _ hg).2
    omega

abbrev errNodeAt (a : Addr) (w : World) : Prop := w.cell? ⟨0, 0, none⟩ = some (.iface 119 (.pointer (some a)))

/-- What a kid's tree leaves. -/
def KidDone (base T : Nat) (L : List (Nd × Value)) (t : List Nd) (Ks : List Int) (ev : Value) (w w' : World) : Prop := ∃ v' kv' L', w'.heap[T]? = some (.cells #[v', kv', ev] tBd (0, 0)) ∧ HasN w' base v' (L ++ L') ∧
      L'.map Prod.fst = movedW L.length t ∧ w'.ownsRow base tI 1 kv' (Ks ++ [((L ++ L').length : Int) - 1]).length (intCells (Ks ++ [((L ++ L').length : Int) - 1])) ∧ FarN kv' (L ++ L') ∧ Below base w w'

set_option maxRecDepth 100000 in
set_option maxHeartbeats 8000000 in
theorem kid_any (t : List Nd) (A : Option Addr) (c T base : Nat) (a : Addr) (v kv ev : Value) (L : List (Nd × Value)) (Ks : List Int) (w : World) (hbT : base ≤ T) (hgb : 0 < base)
    (hT : w.heap[T]? = some (.cells #[v, kv, ev] tBd (0, 0))) (hv : HasN w base v L) (hkv : w.ownsRow base tI 1 kv Ks.length (intCells Ks)) (hf : FarN kv L) (hL : L.length + t.length ≤ 90000) (hKl : Ks.length ≤ 90000) (hev : ev.oneCell' = true)
    (hh : ∀ W, Below base w W → HoldsN W A t) (hi : IntN t) (he : errNodeAt a w) (ev2 : Value) (hev2 : ev2 = if rightN t then ev else .iface 119 (.pointer (some a))) :
    Calls Tryd.prog 28 #[.pointer (some ⟨T, 0, none⟩), .slice A t.length c] w fun e w' => e = .returned (.tuple #[]) ∧ KidDone base T L t Ks ev2 w w' := by
  have hTl := (Array.getElem?_eq_some_iff.1 hT).1
  have HH := Lib.hid hh
  have HI := Lib.hid hi
  have HRt := Lib.hid (right_any t A c w (hh w (Below.refl _ _)) hi)
  have HE := Lib.hid he
  have hgl := cell_lt he
  simp only at hgl
  obtain ⟨A5, c5, rfl, _, _⟩ := hv.holds
  obtain ⟨Ak, ck, rfl, _, _, _⟩ := holdsI_of_own hkv
  have HAD := Lib.hid (fun (W : World) (ev' : Value) (h1 : W.heap[T]? = some (.cells (Value.slice A5 L.length c5 :: [.slice Ak Ks.length ck, ev']).toArray tBd (0, 0))) (h2 : HasN W base (.slice A5 L.length c5) L) (h3 : Below base w W) =>
    add_any t L.length A c T base tBd [.slice Ak Ks.length ck, ev'] (.slice A5 L.length c5) L W hbT h1 (by decide) (by decide) h2 (by omega) (fun W' hW' => hh W' (h3.trans hW')) hi (by omega) (by omega))
  clear hh hi he
  go_enter Tryd.func28, Tryd.ntmps28
  go_wp2_with fail
  refine HRt.out.mono ?_
  rintro e w1 ⟨rfl, hb1⟩
  have hT1 := (hb1.block T hTl).trans hT
  have hv1 := hv.below hb1
  have hkv1 := own_below hkv hb1
  have hsz1 := hb1.size
  obtain ⟨hl5, hl6⟩ : base ≤ T ∧ T < w1.heap.size := ⟨hbT, by omega⟩
  have hbb : base ≤ w.heap.size := by omega
  have hB1 : Below base w w1 := hb1.mono hbb
  have he1 : errNodeAt a w1 := (hb1.cell (p := ⟨0, 0, none⟩) hgl).trans HE.out
  cases hr : rightN t with
  | true =>
    rw [hr] at HRt hev2
    simp only [if_true] at hev2
    obtain rfl : ev = ev2 := hev2.symm
    have hT2 := hT1
    have hv2 := hv1
    have hkv2 := hkv1
    have hB2 := hB1
    clear hT1 hv1 hkv1 hB1
    go_wp2_with fail
    have t0 : w1.cell? ⟨T, 0, none⟩ = some (.slice A5 L.length c5) := by rw [cell_of_row0 hT2]; rfl
    have t1 : w1.cell? ⟨T, 1, none⟩ = some (.slice Ak Ks.length ck) := by rw [cell_of_row0 hT2]; rfl
    have HX := Lib.hid (HAD.out w1.drew ev hT2 ⟨hv2.row, hv2.kids⟩ hB2.drew)
    clear HAD
    go_region_with (go_at_call 33; refine HX.out.mono ?_; rintro e w3 ⟨rfl, v3, L3, hT3, hv3, hM3, hF3, hb3, hI3⟩)
    obtain ⟨A6, c6, rfl, _, _⟩ := hv3.holds
    have hkv3 := hI3.own (show w1.drew.ownsRow base tI 1 (.slice Ak Ks.length ck) Ks.length (intCells Ks) from hkv2)
    have hf3 : FarN (.slice Ak Ks.length ck) (L ++ L3) := fun p hp g hg e => by
      rcases List.mem_append.1 hp with hp | hp
      · exact hf p hp g hg e
      · have h1 := hF3 p hp g hg
        have h2 := (hkv.lt g e).2
        have h3 : w1.drew.heap.size = w1.heap.size := rfl
        omega
    have hB3 : Below base w w3 := hB2.drew.trans hb3
    have hT3l : T < w3.heap.size := (Array.getElem?_eq_some_iff.1 hT3).1
    have hsz3 : base ≤ w3.heap.size := by omega
    generalize hnn : (L ++ L3).length = nn at *
    have hnl : nn ≤ 100000 := by
      have h1 : L3.length = t.length := by
        have h := congrArg List.length hM3
        simpa [movedW] using h
      rw [← hnn, List.length_append, h1]
      omega
    have hgN : ((w3.alloc (.cells #[.int .i64 ((nn : Int) - 1)] tI)).drew).heap[w3.heap.size]? = some (.cells #[.int .i64 ((nn : Int) - 1)] tI (0, 0)) := heap_alloc_new w3 _
    have hBA : Below w3.heap.size w3 ((w3.alloc (.cells #[.int .i64 ((nn : Int) - 1)] tI)).drew) := ((Below.refl _ w3).alloc (Nat.le_refl _) _).drew
    have hkvA := own_below hkv3 hBA
    obtain ⟨A9, c9, w9, hrun, hkv9, hgr9, hat9⟩ := push_int (x := (nn : Int) - 1) hgN hkvA (by omega) (by simp; omega)
    have hTne : (Value.slice Ak Ks.length ck).ownBlock ≠ some T := own_apart_cells hkv3 hT3 (by decide)
    have hv9 := (hv3.below hBA).far hkvA hf3 hgr9
    have hf9 := FarN.next (hv3.below hBA) hf3 hat9
    have hT9 : w9.heap[T]? = some (.cells #[.slice A6 nn c6, .slice Ak Ks.length ck, ev] tBd (0, 0)) := (hgr9.block T (by simp; omega) (fun e => hTne e.symm)).trans ((hBA.block T hT3l).trans hT3)
    have hT10 : (w9.setCell ⟨T, 1, none⟩ (.slice A9 (Ks.length + 1) c9)).heap[T]? = some (.cells #[.slice A6 nn c6, .slice A9 (Ks.length + 1) c9, ev] tBd (0, 0)) := by
      rw [heap_setCell_same w9 T 1 _ _ _ hT9]
      simp
    have hv10 := hv9.setT hT9 (by decide) (by decide) 1 (.slice A9 (Ks.length + 1) c9)
    have hkv10 := ownsRow_setCell_other hkv9 (fun e => own_apart_cells hkv9 hT9 (by decide) e) (a := ⟨T, 1, none⟩) (.slice A9 (Ks.length + 1) c9)
    have hB10 : Below base w (w9.setCell ⟨T, 1, none⟩ (.slice A9 (Ks.length + 1) c9)) := (((hB3.trans (hBA.mono hsz3)).grown hgr9 (by simp; omega) (fun kk hkk => (hkv3.lt kk hkk).1)).setCell (p := ⟨T, 1, none⟩) hbT _)
    have s1 : w3.cell? ⟨T, 1, none⟩ = some (.slice Ak Ks.length ck) := by rw [cell_of_row0 hT3]; rfl
    have s0 : w3.cell? ⟨T, 0, none⟩ = some (.slice A6 nn c6) := by rw [cell_of_row0 hT3]; rfl
    have a1 : (w3.alloc (.cells #[.int .i64 ((nn : Int) - 1)] tI)).drew.cell? ⟨T, 1, none⟩ = some (.slice Ak Ks.length ck) := (World.cell?_alloc_lt _ _ _ hT3l).trans s1
    have a0 : (w3.alloc (.cells #[.int .i64 ((nn : Int) - 1)] tI)).drew.cell? ⟨T, 0, none⟩ = some (.slice A6 nn c6) := (World.cell?_alloc_lt _ _ _ hT3l).trans s0
    have b1 : w9.cell? ⟨T, 1, none⟩ = some (.slice Ak Ks.length ck) := by rw [cell_of_row0 hT9]; rfl
    have b0 : w9.cell? ⟨T, 0, none⟩ = some (.slice A6 nn c6) := by rw [cell_of_row0 hT9]; rfl
    have b2 : w9.frozen? ⟨T, 1, none⟩ = false := frozen_of_row w9 _ 1 _ _ hT9
    have hw3 : IntKind.i64.wrap ((nn : Int) - 1) = (nn : Int) - 1 := IntWalk.i64_in _ (by omega)
    have HFIN : Hid (KidDone base T L t Ks (ev) w (w9.setCell ⟨T, 1, none⟩ (.slice A9 (Ks.length + 1) c9))) :=
      Lib.hid ⟨_, _, L3, hT10, by rw [← hnn] at hv10; rw [← hnn]; exact hv10, hM3, by rw [hnn]; exact hkv10, hf9, hB10⟩
    clear hT10 hv10 hkv10 hB10 hv9 hkv9 hgr9 hat9 hf9 hkvA hBA hgN hM3 hF3 hI3 hf3 hkv3 hv3 hT3 hT9
    go_wp2_with fail
    refine wp_region_ordz (S := fun w' => w'.cell? ⟨T, 1, none⟩ = some (.slice Ak Ks.length ck) ∧ w'.cell? ⟨T, 0, none⟩ = some (.slice A6 nn c6)) [0, 1, 2, 3, 4, 5, 6, 7, 8, 9, 10, 11] [12, 13, 14, 15, 16] 16 (by kernel_rfl) (by kernel_rfl) (fun _ _ _ _ _ h => h) ⟨s1, s0⟩ ?_
    simp only [pick, List.filterMap_cons, List.filterMap_nil, List.getElem?_toArray, List.getElem?_cons_zero, List.getElem?_cons_succ]
    repeat (refine wpHead_step (v := ?_) rfl ?_ ?_; rotate_left; (focus (rintro w1 ⟨s1, s0⟩; go_simp; try with_reducible rfl)); simp only [Act.put, List.setIfInBounds_toArray, List.set_cons_zero, List.set_cons_succ])
    refine wpHead_nil ?_
    refine wpTailZ_step rfl (fun K hK => ?_)
    go_wp2_with fail
    refine hK _ _ ⟨a1, a0⟩ ?_
    clear hK K
    try simp only [Act.put, List.setIfInBounds_toArray, List.set_cons_zero, List.set_cons_succ]
    refine wpTailZ_step rfl (fun K hK => ?_)
    refine wp_append_run _ _ 35 35 rfl rfl rfl hrun ?_
    refine hK _ _ ⟨b1, b0⟩ ?_
    clear hK K
    try simp only [Act.put, List.setIfInBounds_toArray, List.set_cons_zero, List.set_cons_succ]
    refine wpTailZ_step rfl (fun K hK => ?_)
    go_wp2_with fail
    refine hK _ _ ⟨b1, b0⟩ ?_
    clear hK K
    try simp only [Act.put, List.setIfInBounds_toArray, List.set_cons_zero, List.set_cons_succ]
    refine wpTailZ_step rfl (fun K hK => ?_)
    go_wp2_with fail
    refine hK _ _ ⟨b1, b0⟩ ?_
    clear hK K
    try simp only [Act.put, List.setIfInBounds_toArray, List.set_cons_zero, List.set_cons_succ]
    refine wpTailZ_last rfl (fun K hK => ?_)
    go_wp2_with fail
    go_end0
    exact ⟨rfl, HFIN.out⟩
  | false =>
    rw [hr] at HRt hev2
    simp only [Bool.false_eq_true, if_false] at hev2
    subst hev2
    have y1 : w1.cell? ⟨T, 2, none⟩ = some ev := by rw [cell_of_row0 hT1]; rfl
    have y2 : w1.frozen? ⟨T, 2, none⟩ = false := frozen_of_row w1 _ 2 _ _ hT1
    have hTw : T < w1.heap.size := (Array.getElem?_eq_some_iff.1 hT1).1
    have hT2 : (w1.setCell ⟨T, 2, none⟩ (.iface 119 (.pointer (some a)))).heap[T]? = some (.cells #[.slice A5 L.length c5, .slice Ak Ks.length ck, .iface 119 (.pointer (some a))] tBd (0, 0)) := by
      rw [heap_setCell_same w1 T 2 _ _ _ hT1]
      simp
    have hv2 := hv1.setT hT1 (by decide) (by decide) 2 (.iface 119 (.pointer (some a)))
    have hkv2 := ownsRow_setCell_other hkv1 (fun e => own_apart_cells hkv1 hT1 (by decide) e) (a := ⟨T, 2, none⟩) (.iface 119 (.pointer (some a)))
    have hB2 := hB1.setCell (p := ⟨T, 2, none⟩) hbT (.iface 119 (.pointer (some a)))
    have hzz : (w1.setCell ⟨T, 2, none⟩ (.iface 119 (.pointer (some a)))).heap.size = w1.heap.size := by simp
    clear hT1 hv1 hkv1 hB1
    generalize hWX : w1.setCell ⟨T, 2, none⟩ (.iface 119 (.pointer (some a))) = w1x at *
    go_wp2_with fail
    have t0 : w1x.cell? ⟨T, 0, none⟩ = some (.slice A5 L.length c5) := by rw [cell_of_row0 hT2]; rfl
    have t1 : w1x.cell? ⟨T, 1, none⟩ = some (.slice Ak Ks.length ck) := by rw [cell_of_row0 hT2]; rfl
    have HX := Lib.hid (HAD.out w1x.drew (.iface 119 (.pointer (some a))) hT2 ⟨hv2.row, hv2.kids⟩ hB2.drew)
    clear HAD
    go_region_with (go_at_call 33; refine HX.out.mono ?_; rintro e w3 ⟨rfl, v3, L3, hT3, hv3, hM3, hF3, hb3, hI3⟩)
    obtain ⟨A6, c6, rfl, _, _⟩ := hv3.holds
    have hkv3 := hI3.own (show w1x.drew.ownsRow base tI 1 (.slice Ak Ks.length ck) Ks.length (intCells Ks) from hkv2)
    have hf3 : FarN (.slice Ak Ks.length ck) (L ++ L3) := fun p hp g hg e => by
      rcases List.mem_append.1 hp with hp | hp
      · exact hf p hp g hg e
      · have h1 := hF3 p hp g hg
        have h2 := (hkv.lt g e).2
        have h3 : w1x.drew.heap.size = w1x.heap.size := rfl
        omega
    have hB3 : Below base w w3 := hB2.drew.trans hb3
    have hT3l : T < w3.heap.size := (Array.getElem?_eq_some_iff.1 hT3).1
    have hsz3 : base ≤ w3.heap.size := by omega
    generalize hnn : (L ++ L3).length = nn at *
    have hnl : nn ≤ 100000 := by
      have h1 : L3.length = t.length := by
        have h := congrArg List.length hM3
        simpa [movedW] using h
      rw [← hnn, List.length_append, h1]
      omega
    have hgN : ((w3.alloc (.cells #[.int .i64 ((nn : Int) - 1)] tI)).drew).heap[w3.heap.size]? = some (.cells #[.int .i64 ((nn : Int) - 1)] tI (0, 0)) := heap_alloc_new w3 _
    have hBA : Below w3.heap.size w3 ((w3.alloc (.cells #[.int .i64 ((nn : Int) - 1)] tI)).drew) := ((Below.refl _ w3).alloc (Nat.le_refl _) _).drew
    have hkvA := own_below hkv3 hBA
    obtain ⟨A9, c9, w9, hrun, hkv9, hgr9, hat9⟩ := push_int (x := (nn : Int) - 1) hgN hkvA (by omega) (by simp; omega)
    have hTne : (Value.slice Ak Ks.length ck).ownBlock ≠ some T := own_apart_cells hkv3 hT3 (by decide)
    have hv9 := (hv3.below hBA).far hkvA hf3 hgr9
    have hf9 := FarN.next (hv3.below hBA) hf3 hat9
    have hT9 : w9.heap[T]? = some (.cells #[.slice A6 nn c6, .slice Ak Ks.length ck, .iface 119 (.pointer (some a))] tBd (0, 0)) := (hgr9.block T (by simp; omega) (fun e => hTne e.symm)).trans ((hBA.block T hT3l).trans hT3)
    have hT10 : (w9.setCell ⟨T, 1, none⟩ (.slice A9 (Ks.length + 1) c9)).heap[T]? = some (.cells #[.slice A6 nn c6, .slice A9 (Ks.length + 1) c9, .iface 119 (.pointer (some a))] tBd (0, 0)) := by
      rw [heap_setCell_same w9 T 1 _ _ _ hT9]
      simp
    have hv10 := hv9.setT hT9 (by decide) (by decide) 1 (.slice A9 (Ks.length + 1) c9)
    have hkv10 := ownsRow_setCell_other hkv9 (fun e => own_apart_cells hkv9 hT9 (by decide) e) (a := ⟨T, 1, none⟩) (.slice A9 (Ks.length + 1) c9)
    have hB10 : Below base w (w9.setCell ⟨T, 1, none⟩ (.slice A9 (Ks.length + 1) c9)) := (((hB3.trans (hBA.mono hsz3)).grown hgr9 (by simp; omega) (fun kk hkk => (hkv3.lt kk hkk).1)).setCell (p := ⟨T, 1, none⟩) hbT _)
    have s1 : w3.cell? ⟨T, 1, none⟩ = some (.slice Ak Ks.length ck) := by rw [cell_of_row0 hT3]; rfl
    have s0 : w3.cell? ⟨T, 0, none⟩ = some (.slice A6 nn c6) := by rw [cell_of_row0 hT3]; rfl
    have a1 : (w3.alloc (.cells #[.int .i64 ((nn : Int) - 1)] tI)).drew.cell? ⟨T, 1, none⟩ = some (.slice Ak Ks.length ck) := (World.cell?_alloc_lt _ _ _ hT3l).trans s1
    have a0 : (w3.alloc (.cells #[.int .i64 ((nn : Int) - 1)] tI)).drew.cell? ⟨T, 0, none⟩ = some (.slice A6 nn c6) := (World.cell?_alloc_lt _ _ _ hT3l).trans s0
    have b1 : w9.cell? ⟨T, 1, none⟩ = some (.slice Ak Ks.length ck) := by rw [cell_of_row0 hT9]; rfl
    have b0 : w9.cell? ⟨T, 0, none⟩ = some (.slice A6 nn c6) := by rw [cell_of_row0 hT9]; rfl
    have b2 : w9.frozen? ⟨T, 1, none⟩ = false := frozen_of_row w9 _ 1 _ _ hT9
    have hw3 : IntKind.i64.wrap ((nn : Int) - 1) = (nn : Int) - 1 := IntWalk.i64_in _ (by omega)
    have HFIN : Hid (KidDone base T L t Ks (.iface 119 (.pointer (some a))) w (w9.setCell ⟨T, 1, none⟩ (.slice A9 (Ks.length + 1) c9))) :=
      Lib.hid ⟨_, _, L3, hT10, by rw [← hnn] at hv10; rw [← hnn]; exact hv10, hM3, by rw [hnn]; exact hkv10, hf9, hB10⟩
    clear hT10 hv10 hkv10 hB10 hv9 hkv9 hgr9 hat9 hf9 hkvA hBA hgN hM3 hF3 hI3 hf3 hkv3 hv3 hT3 hT9
    go_wp2_with fail
    refine wp_region_ordz (S := fun w' => w'.cell? ⟨T, 1, none⟩ = some (.slice Ak Ks.length ck) ∧ w'.cell? ⟨T, 0, none⟩ = some (.slice A6 nn c6)) [0, 1, 2, 3, 4, 5, 6, 7, 8, 9, 10, 11] [12, 13, 14, 15, 16] 16 (by kernel_rfl) (by kernel_rfl) (fun _ _ _ _ _ h => h) ⟨s1, s0⟩ ?_
    simp only [pick, List.filterMap_cons, List.filterMap_nil, List.getElem?_toArray, List.getElem?_cons_zero, List.getElem?_cons_succ]
    repeat (refine wpHead_step (v := ?_) rfl ?_ ?_; rotate_left; (focus (rintro w1 ⟨s1, s0⟩; go_simp; try with_reducible rfl)); simp only [Act.put, List.setIfInBounds_toArray, List.set_cons_zero, List.set_cons_succ])
    refine wpHead_nil ?_
    refine wpTailZ_step rfl (fun K hK => ?_)
    go_wp2_with fail
    refine hK _ _ ⟨a1, a0⟩ ?_
    clear hK K
    try simp only [Act.put, List.setIfInBounds_toArray, List.set_cons_zero, List.set_cons_succ]
    refine wpTailZ_step rfl (fun K hK => ?_)
    refine wp_append_run _ _ 35 35 rfl rfl rfl hrun ?_
    refine hK _ _ ⟨b1, b0⟩ ?_
    clear hK K
    try simp only [Act.put, List.setIfInBounds_toArray, List.set_cons_zero, List.set_cons_succ]
    refine wpTailZ_step rfl (fun K hK => ?_)
    go_wp2_with fail
    refine hK _ _ ⟨b1, b0⟩ ?_
    clear hK K
    try simp only [Act.put, List.setIfInBounds_toArray, List.set_cons_zero, List.set_cons_succ]
    refine wpTailZ_step rfl (fun K hK => ?_)
    go_wp2_with fail
    refine hK _ _ ⟨b1, b0⟩ ?_
    clear hK K
    try simp only [Act.put, List.setIfInBounds_toArray, List.set_cons_zero, List.set_cons_succ]
    refine wpTailZ_last rfl (fun K hK => ?_)
    go_wp2_with fail
    go_end0
    exact ⟨rfl, HFIN.out⟩
end Go.Proofs.YtbcgdkhkljeomaaDoor
