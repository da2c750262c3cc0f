/-
  XNdJo, turned: what this seat needs of it.
-/
import Derived.Test.YtebejlnegalokaaGreatDoorProg
import Derived.Test.YtebejlnegalokaaGreatDoorReg
import Derived.WalkKit
import Derived.WalkSpells
import Derived.WalkLawsBesides
import Derived.Lib.Hide
import Derived.Lib.MinMax
import Derived.Deep.QuietTactic
import Derived.BigQuiet
import Derived.OwnWalk
import Derived.Deep.AppendLies
import Derived.KernelRfl
import Derived.WalkKit
import Derived.Test.YtebejlnegalokaaGreatDoorBytes
import Derived.Laws.OwnMore
import Derived.Test.YtebejlnegalokaaGreatDoorMapI
import Derived.Deep.RegionWith
import Derived.Deep.CutBlock
import Derived.Deep.OwnRows
import Derived.LaidEql
import Derived.Stop.Asserts
import Derived.RowKitTokens
import Derived.Shelf.Strings.Builder1
import Derived.Shelf.Small.Strs
import Derived.Shelf.Strings.BuilderF
import Derived.Shelf.Strings.BuilderK
import Derived.Shelf.Strconv.Itoa0
import Derived.Shelf.Strconv.Itoa1
import Derived.Shelf.LaysM
import Derived.Shelf.Strconv.Itoa2
import Derived.Shelf.Strconv.Itoa3
import Derived.Shelf.Strings.Search1
import Derived.Lib.FrozenHead2
import Derived.Laws.IdiomStrings
import Derived.Lib.MinMax
import Derived.Maps.AppendAt
import Derived.Lib.Builder
import Derived.OneCell
import Derived.Test.YtebejlnegalokaaGreatDoorRegZ
import Derived.Deep.Upon
import Derived.Laws.CopyOwn
import Derived.Test.YtebejlnegalokaaGreatDoorPaLay
import Derived.Test.YtebejlnegalokaaGreatDoorNzM6
set_option linter.unusedSimpArgs false
set_option linter.unusedVariables false
namespace Go.Proofs.YtebejlnegalokaaGreatDoor.Nz
open Go.RowKit
/-- The slice value '.slice A n c' holds, in w, the trees l. -/
def HoldsTs (w : World) (A : Option Addr) (l : List (List Nd)) : Prop :=
  ∀ (k : Nat) (t : List Nd), l[k]? = some t → ∃ b off, A = some ⟨b, off, none⟩ ∧ ∃ B c, w.cell? ⟨b, off + k, none⟩ = some (.slice B t.length c) ∧ HoldsN w B t ∧ t.length ≤ c
theorem HoldsTs.below {w w' : World} {A : Option Addr} {l : List (List Nd)} (h : HoldsTs w A l) (hb : Below w.heap.size w w') : HoldsTs w' A l := fun k t hk => by
  obtain ⟨b, off, e, B, c, h1, h2, h3⟩ := h k t hk
  have hl : b < w.heap.size := cell_lt h1
  exact ⟨b, off, e, B, c, (hb.cell (p := ⟨b, _, none⟩) hl).trans h1, h2.below hb, h3⟩
theorem HoldsTs.nil (w : World) (A : Option Addr) : HoldsTs w A [] := fun k x hx => by simp at hx
theorem wf_small {k : Int} (h1 : -1000000000 ≤ k) (h2 : k ≤ 1000000000) : (Lit.int .i64 k).wf = true := by
  have e1 : IntKind.i64.min = -9223372036854775808 := by decide
  have e2 : IntKind.i64.max = 9223372036854775807 := by decide
  simp [Lit.wf, e1, e2]
  omega
theorem moved_len (by_ : Int) (t : List Nd) : (movedN by_ t).length = t.length := by simp [movedN]
theorem kids_small {t : List Nd} (h : rightN t = true) : ∀ x ∈ t, ∀ k ∈ x.kids, 0 ≤ k ∧ k < 400 := by
  obtain ⟨r1, r2, hok, _⟩ := rightN_parts h
  intro x hx k hk
  obtain ⟨j, hj⟩ := List.getElem?_of_mem hx
  have hl : j < t.length := (List.getElem?_eq_some_iff.1 hj).1
  have := nodes_kid hok hl (k := k) (by rw [nodeAt_some hj]; exact hk)
  omega
theorem IntN.moved {by_ : Int} {t : List Nd} (h : IntN t) (hr : rightN t = true) (h1 : -1000000 ≤ by_) (h2 : by_ ≤ 1000000) : IntN (movedN by_ t) := by
  intro x hx
  unfold movedN at hx
  obtain ⟨y, hy, rfl⟩ := List.mem_map.1 hx
  obtain ⟨a1, a2, a3, a4⟩ := h y hy
  refine ⟨a1, by simpa using a2, a3, fun k hk => ?_⟩
  obtain ⟨j, hj, rfl⟩ := List.mem_map.1 hk
  have := kids_small hr y hy j hj
  exact wf_small (by omega) (by omega)
theorem IntN.append {a b : List Nd} (ha : IntN a) (hb : IntN b) : IntN (a ++ b) := fun x hx => by
  rcases List.mem_append.1 hx with h | h
  · exact ha x h
  · exact hb x h
theorem movedW_right {by_ : Int} {t : List Nd} (hr : rightN t = true) (h1 : -1000000 ≤ by_) (h2 : by_ ≤ 1000000) : movedW by_ t = movedN by_ t :=
  movedW_eq h1 h2 (fun x hx k hk => by have := kids_small hr x hx k hk; omega)
theorem joinGo_step {out : List Nd} {ks : List Int} {t : List Nd} {l : List (List Nd)} : joinGo out ks (t :: l) = if rightN t then joinGo (out ++ movedN out.length t) (ks ++ [((out ++ movedN out.length t).length : Int) - 1]) l else none := rfl
theorem jump_ret {l : Nat} {J : Act → World → Prop} {Q : Exit → Act → World → Prop} {a : Act} {w : World} (h : Q .ret a w) : Exit.jump l J Q .ret a w := h
/-- What a join gives. -/
def JoinDone (kind : Int) (text : ByteArray) (l : List (List Nd)) (e : Ending) (w w' : World) : Prop :=
  (match joinN kind text l with
   | none => e = .returned (.tuple #[.slice none 0 0, .int .i64 70])
   | some out => ∃ v L, e = .returned (.tuple #[v, .int .i64 0]) ∧ HasN w' w.heap.size v L ∧ L.map Prod.fst = out) ∧ Below w.heap.size w w'
set_option maxRecDepth 100000 in
set_option maxHeartbeats 8000000 in
theorem join_any (kind : Int) (text : ByteArray) (l : List (List Nd)) (A : Option Addr) (c : Nat) (a : Addr) (w : World) (hk : (Lit.int .i64 kind).wf = true) (hx : text.size ≤ 1000000) (hl : l.length ≤ 100) (hh : HoldsTs w A l) (ht : ∀ t ∈ l, t.length ≤ 800 ∧ IntN t) (he : errNodeAt a w) :
    Calls Tryz.prog 82 #[.int .i64 kind, .string text, .slice A l.length c] w fun e w' => JoinDone kind text l e w w' := by
  have HH := Lib.hid hh
  have HTr := Lib.hid ht
  have HE := Lib.hid he
  have hgl := cell_lt he
  simp only at hgl
  clear hh ht he
  go_enter Tryz.func82, Tryz.ntmps82
  go_wp2_with fail
  refine wp_scope_fwd 0 rfl ?_
  go_wp2_with fail
  have hT0 : (w.alloc (.cells #[.slice none 0 0, .slice none 0 0, .nilIface] tBd)).heap[w.heap.size]? = some (.cells #[.slice none 0 0, .slice none 0 0, .nilIface] tBd (0, 0)) := heap_alloc_new _ _
  have hB0 : Below w.heap.size w (w.alloc (.cells #[.slice none 0 0, .slice none 0 0, .nilIface] tBd)) := (Below.refl _ _).alloc (Nat.le_refl _) _
  generalize w.alloc (.cells #[.slice none 0 0, .slice none 0 0, .nilIface] tBd) = W0 at *
  go_loopw [15] (fun s wr => ∃ (i : Nat) (v kv : Value) (L : List (Nd × Value)) (Ks : List Int), s = .int .i64 i ∧ i ≤ l.length ∧ wr.heap[w.heap.size]? = some (.cells #[v, kv, .nilIface] tBd (0, 0)) ∧ Hid (HasN wr w.heap.size v L) ∧ Hid (wr.ownsRow w.heap.size tI 1 kv Ks.length (intCells Ks)) ∧ Hid (FarN kv L) ∧
      Hid (Below w.heap.size w wr) ∧ Hid (IntN (L.map Prod.fst)) ∧ Hid (L.length ≤ 800 * i ∧ Ks.length = i ∧ ∀ k ∈ Ks, -1 ≤ k ∧ k ≤ 1000000) ∧ Hid (joinGo [] [] l = joinGo (L.map Prod.fst) Ks (l.drop i))) (fun s _ => l.length - (intOf s).toNat)
  case atStart => exact ⟨0, _, _, [], [], rfl, Nat.zero_le _, hT0, Lib.hid (HasN.nil _ _), Lib.hid (World.ownsRow_nil _ _ _ _), Lib.hid (fun p hp => by simp at hp), Lib.hid hB0, Lib.hid (fun x hx => by simp at hx), Lib.hid ⟨by simp, rfl, fun k hk => by simp at hk⟩, Lib.hid rfl⟩
  case round =>
    clear hT0 hB0
    obtain ⟨i, v, kv, L, Ks, rfl, hi, hT, HN, HU, HF, HB, HIN, HQ, HJ⟩ := hrel
    by_cases hlt : i < l.length
    · have g := List.getElem?_eq_getElem hlt
      have hmem := List.getElem_mem hlt
      have HJ1 : Hid (joinGo [] [] l = if rightN l[i] then joinGo (L.map Prod.fst ++ movedN (L.map Prod.fst).length l[i]) (Ks ++ [((L.map Prod.fst ++ movedN (L.map Prod.fst).length l[i]).length : Int) - 1]) (l.drop (i + 1)) else none) := Lib.hid (by rw [HJ.out, drop_one g, joinGo_step])
      generalize l[i] = t at *
      obtain ⟨b, off, rfl, B, c2, c0, hHN, hc⟩ := HH.out i t g
      obtain ⟨ht8, htI⟩ := HTr.out t hmem
      obtain ⟨q1, q2, q3⟩ := HQ.out
      have d0 := (HB.out.cell (p := ⟨b, _, none⟩) (cell_lt c0)).trans c0
      have he1 : errNodeAt a wr := (HB.out.cell (p := ⟨0, 0, none⟩) hgl).trans HE.out
      have HKD := Lib.hid (fun ev2 h2 => kid_any t B c2 w.heap.size w.heap.size a v kv .nilIface L Ks wr (Nat.le_refl _) hgl hT HN.out HU.out HF.out (by omega) (by omega) rfl (fun W hW => hHN.below (HB.out.trans hW)) htI he1 ev2 h2)
      have HTI := Lib.hid htI
      clear c0 hHN g hmem htI
      cases hr : rightN t with
      | false =>
        rw [hr] at HJ1 HKD
        have HJN : Hid (joinN kind text l = none) := Lib.hid (by unfold joinN; rw [HJ1.out]; rfl)
        have HX := Lib.hid (HKD.out _ rfl)
        clear hr HKD HJ HJ1
        go_wp2_with fail
        refine HX.out.mono ?_
        rintro e w1 ⟨rfl, v', kv', L', hT1, hv1, hM1, hk1, hf1, hb1⟩
        have e2 : w1.cell? ⟨w.heap.size, 2, none⟩ = some (.iface 216 (.pointer (some a))) := by rw [cell_of_row0 hT1]; rfl
        have hBw : Below w.heap.size w w1 := HB.out.trans hb1
        have he2 : errNodeAt a w1 := (hBw.cell (p := ⟨0, 0, none⟩) hgl).trans HE.out
        have HTo := Lib.hid (told_err a w1 he2)
        clear hT1 hv1 hk1 hf1 hM1
        go_wp2_with fail
        go_step3
        refine ⟨rfl, ?_⟩
        go_wp2_with fail
        refine HTo.out.mono ?_
        rintro e w2 ⟨rfl, rfl⟩
        go_wp2_with fail
        try rw [Exit.noGoto_ret]
        go_ret2
        exact ⟨by rw [HJN.out]; rfl, hBw⟩
      | true =>
        rw [hr] at HJ1 HKD
        have HX := Lib.hid (HKD.out _ rfl)
        have HMW := Lib.hid (movedW_right (by_ := (L.length : Int)) hr (by omega) (by omega))
        have HIM := Lib.hid (HTI.out.moved (by_ := (L.length : Int)) hr (by omega) (by omega))
        clear hr HKD HJ
        go_wp2_with fail
        refine HX.out.mono ?_
        rintro e w1 ⟨rfl, v', kv', L', hT1, hv1, hM1, hk1, hf1, hb1⟩
        have e2 : w1.cell? ⟨w.heap.size, 2, none⟩ = some .nilIface := by rw [cell_of_row0 hT1]; rfl
        have HBw : Hid (Below w.heap.size w w1) := Lib.hid (HB.out.trans hb1)
        rw [HMW.out] at hM1
        have hmap : (L ++ L').map Prod.fst = L.map Prod.fst ++ movedN (L.map Prod.fst).length t := by rw [List.map_append, hM1, List.length_map]
        have hll : (L ++ L').length = (L.map Prod.fst ++ movedN (L.map Prod.fst).length t).length := by rw [← hmap, List.length_map]
        have HJ2 : Hid (joinGo [] [] l = joinGo ((L ++ L').map Prod.fst) (Ks ++ [((L ++ L').length : Int) - 1]) (l.drop (i + 1))) := Lib.hid (by rw [HJ1.out, hmap, hll]; rfl)
        have HIN2 : Hid (IntN ((L ++ L').map Prod.fst)) := Lib.hid (by rw [List.map_append, hM1]; exact HIN.out.append HIM.out)
        have hlen2 : (L ++ L').length = L.length + t.length := by rw [hll, List.length_append, moved_len, List.length_map]
        have HQ2 : Hid ((L ++ L').length ≤ 800 * (i + 1) ∧ (Ks ++ [((L ++ L').length : Int) - 1]).length = i + 1 ∧ ∀ k ∈ Ks ++ [((L ++ L').length : Int) - 1], -1 ≤ k ∧ k ≤ 1000000) := Lib.hid (by
          refine ⟨by omega, by rw [List.length_append, q2]; rfl, fun k hk => ?_⟩
          rcases List.mem_append.1 hk with hk | hk
          · exact q3 k hk
          · rw [List.mem_singleton.1 hk, hlen2]; omega)
        have HV1 := Lib.hid hv1
        have HK1 := Lib.hid hk1
        have HF1 := Lib.hid hf1
        have HT1 := Lib.hid hT1
        clear hv1 hk1 hf1 hT1 hb1 hM1 hmap hll hlen2 q1 q2 q3
        go_wp2_with fail
        go_roundw
        case rel => exact ⟨i + 1, v', kv', L ++ L', Ks ++ [((L ++ L').length : Int) - 1], by go_num, by omega, HT1.out, HV1, HK1, HF1, HBw, HIN2, HQ2, HJ2⟩
        case measure => simp [intOf]; omega
    · obtain rfl : i = l.length := by omega
      obtain ⟨q1, q2, q3⟩ := HQ.out
      have HJ1 : Hid (joinN kind text l = if rightN (L.map Prod.fst ++ [⟨kind, text, Ks⟩]) then some (L.map Prod.fst ++ [⟨kind, text, Ks⟩]) else none) := Lib.hid (by
        unfold joinN
        rw [HJ.out, List.drop_of_length_le (Nat.le_refl _)]
        rfl)
      clear HJ
      obtain ⟨Ak, ck, rfl, _, _, _⟩ := holdsI_of_own HU.out
      obtain ⟨A5, c5, rfl, _, _⟩ := HN.out.holds
      have hTl : w.heap.size < wr.heap.size := (Array.getElem?_eq_some_iff.1 hT).1
      have hgN : ((wr.alloc (.cells #[.int .i64 kind, .string text, .slice Ak Ks.length ck] tN)).drew).heap[wr.heap.size]? = some (.cells #[.int .i64 kind, .string text, .slice Ak Ks.length ck] tN (0, 0)) := heap_alloc_new wr _
      have hBA : Below wr.heap.size wr ((wr.alloc (.cells #[.int .i64 kind, .string text, .slice Ak Ks.length ck] tN)).drew) := ((Below.refl _ wr).alloc (Nat.le_refl _) _).drew
      obtain ⟨A9, c9, w9, hrun, hN9, hgr9⟩ := push_node (x := ⟨kind, text, Ks⟩) hgN (HN.out.below hBA) (own_below HU.out hBA) (by omega) (by simp; omega)
      have hTne : (Value.slice A5 L.length c5).ownBlock ≠ some w.heap.size := own_apart_cells HN.out.row hT (by decide)
      have hT9 : w9.heap[w.heap.size]? = some (.cells #[.slice A5 L.length c5, .slice Ak Ks.length ck, .nilIface] tBd (0, 0)) := (hgr9.block w.heap.size (by simp; omega) (fun e => hTne e.symm)).trans ((hBA.block _ hTl).trans hT)
      have hT10 : (w9.setCell ⟨w.heap.size, 0, none⟩ (.slice A9 (L.length + 1) c9)).heap[w.heap.size]? = some (.cells #[.slice A9 (L.length + 1) c9, .slice Ak Ks.length ck, .nilIface] tBd (0, 0)) := by
        rw [heap_setCell_same w9 _ 0 _ _ _ hT9]
        simp
      have hN10 := hN9.setT hT9 (by decide) (by decide) 0 (.slice A9 (L.length + 1) c9)
      have hB10 : Below w.heap.size w (w9.setCell ⟨w.heap.size, 0, none⟩ (.slice A9 (L.length + 1) c9)) := ((((HB.out.trans (hBA.mono HB.out.size))).grown hgr9 (by simp; omega) (fun kk hkk => (HN.out.row.lt kk hkk).1)).setCell (p := ⟨w.heap.size, 0, none⟩) (Nat.le_refl _) _)
      have hIO : IntN (L.map Prod.fst ++ [⟨kind, text, Ks⟩]) := HIN.out.append (fun x hx' => by
        rw [List.mem_singleton.1 hx']
        exact ⟨hk, by simp; omega, hx, fun k hk' => by have := q3 k hk'; exact wf_small (by omega) (by omega)⟩)
      have hho : HoldsN (w9.setCell ⟨w.heap.size, 0, none⟩ (.slice A9 (L.length + 1) c9)) A9 (L.map Prod.fst ++ [⟨kind, text, Ks⟩]) := by
        obtain ⟨A8, c8, e8, h8, _⟩ := hN10.holds
        rw [List.length_append, List.length_singleton] at e8
        cases e8
        rw [List.map_append] at h8
        exact h8
      have HRt := Lib.hid (right_any (L.map Prod.fst ++ [⟨kind, text, Ks⟩]) A9 c9 _ hho hIO)
      have hlo : (L.map Prod.fst ++ [(⟨kind, text, Ks⟩ : Nd)]).length = L.length + 1 := by simp
      rw [hlo] at HRt
      have HMF : Hid ((L ++ [((⟨kind, text, Ks⟩ : Nd), Value.slice Ak Ks.length ck)]).map Prod.fst = L.map Prod.fst ++ [⟨kind, text, Ks⟩]) := Lib.hid (by rw [List.map_append]; rfl)
      have s0 : wr.cell? ⟨w.heap.size, 0, none⟩ = some (.slice A5 L.length c5) := by rw [cell_of_row0 hT]; rfl
      have s1 : wr.cell? ⟨w.heap.size, 1, none⟩ = some (.slice Ak Ks.length ck) := by rw [cell_of_row0 hT]; rfl
      have a0 : (wr.alloc (.cells #[.int .i64 kind, .string text, .slice Ak Ks.length ck] tN)).drew.cell? ⟨w.heap.size, 0, none⟩ = some (.slice A5 L.length c5) := (World.cell?_alloc_lt _ _ _ hTl).trans s0
      have a1 : (wr.alloc (.cells #[.int .i64 kind, .string text, .slice Ak Ks.length ck] tN)).drew.cell? ⟨w.heap.size, 1, none⟩ = some (.slice Ak Ks.length ck) := (World.cell?_alloc_lt _ _ _ hTl).trans s1
      have b0 : w9.cell? ⟨w.heap.size, 0, none⟩ = some (.slice A5 L.length c5) := by rw [cell_of_row0 hT9]; rfl
      have b1 : w9.cell? ⟨w.heap.size, 1, none⟩ = some (.slice Ak Ks.length ck) := by rw [cell_of_row0 hT9]; rfl
      have b2 : w9.frozen? ⟨w.heap.size, 0, none⟩ = false := frozen_of_row w9 _ 0 _ _ hT9
      have HN10 := Lib.hid hN10
      have HB10 := Lib.hid hB10
      have HE10 := Lib.hid ((hB10.cell (p := ⟨0, 0, none⟩) hgl).trans HE.out)
      generalize hWX : w9.setCell ⟨w.heap.size, 0, none⟩ (.slice A9 (L.length + 1) c9) = wx at *
      have x0 : wx.cell? ⟨w.heap.size, 0, none⟩ = some (.slice A9 (L.length + 1) c9) := by rw [cell_of_row0 hT10]; rfl
      clear hN10 hB10 hN9 hgr9 hT9 hgN hBA hho hIO hlo hT HN HU HF HIN HQ q1 q2 q3
      go_wp2_with fail
      refine wp_region_ordz (S := fun w' => w'.cell? ⟨w.heap.size, 0, none⟩ = some (.slice A5 L.length c5) ∧ w'.cell? ⟨w.heap.size, 1, none⟩ = some (.slice Ak Ks.length ck)) [0, 1, 2, 3, 4, 5, 6, 7, 8, 9, 10, 11, 12] [13, 14, 15, 16, 17, 18] 18 (by kernel_rfl) (by kernel_rfl) (fun _ _ _ _ _ h => h) ⟨s0, s1⟩ ?_
      simp only [pick, List.filterMap_cons, List.filterMap_nil, List.getElem?_toArray, List.getElem?_cons_zero, List.getElem?_cons_succ]
      repeat (refine wpHead_step (v := ?_) rfl ?_ ?_; rotate_left; (focus (rintro w1 ⟨s0, s1⟩; go_simp; try with_reducible rfl)); simp only [Act.put, List.setIfInBounds_toArray, List.set_cons_zero, List.set_cons_succ])
      refine wpHead_nil ?_
      refine wpTailZ_step rfl (fun K hK => ?_)
      go_wp2_with fail
      refine hK _ _ ⟨a0, a1⟩ ?_
      clear hK K
      try simp only [Act.put, List.setIfInBounds_toArray, List.set_cons_zero, List.set_cons_succ]
      refine wpTailZ_step rfl (fun K hK => ?_)
      refine wp_append_run _ _ 23 23 rfl rfl rfl hrun ?_
      refine hK _ _ ⟨b0, b1⟩ ?_
      clear hK K
      try simp only [Act.put, List.setIfInBounds_toArray, List.set_cons_zero, List.set_cons_succ]
      refine wpTailZ_step rfl (fun K hK => ?_)
      go_wp2_with fail
      refine hK _ _ ⟨b0, b1⟩ ?_
      clear hK K
      try simp only [Act.put, List.setIfInBounds_toArray, List.set_cons_zero, List.set_cons_succ]
      refine wpTailZ_step rfl (fun K hK => ?_)
      go_wp2_with fail
      refine hK _ _ ⟨b0, b1⟩ ?_
      clear hK K
      try simp only [Act.put, List.setIfInBounds_toArray, List.set_cons_zero, List.set_cons_succ]
      refine wpTailZ_step rfl (fun K hK => ?_)
      go_wp2_with fail
      refine hK _ _ ⟨b0, b1⟩ ?_
      clear hK K
      try simp only [Act.put, List.setIfInBounds_toArray, List.set_cons_zero, List.set_cons_succ]
      refine wpTailZ_last rfl (fun K hK => ?_)
      go_wp2_with fail
      refine HRt.out.mono ?_
      rintro e w5 ⟨rfl, hb5⟩
      have hT5 := (hb5.block _ (Array.getElem?_eq_some_iff.1 hT10).1).trans hT10
      have y0 : w5.cell? ⟨w.heap.size, 0, none⟩ = some (.slice A9 (L.length + 1) c9) := by rw [cell_of_row0 hT5]; rfl
      have hB5 : Below w.heap.size w w5 := HB10.out.trans (hb5.mono HB10.out.size)
      cases hro : rightN (L.map Prod.fst ++ [⟨kind, text, Ks⟩]) with
      | true =>
        have HJ5 : Hid (joinN kind text l = some (L.map Prod.fst ++ [⟨kind, text, Ks⟩])) := Lib.hid (by rw [HJ1.out, hro]; rfl)
        have HN5 : Hid (HasN w5 w.heap.size (.slice A9 (L.length + 1) c9) (L ++ [((⟨kind, text, Ks⟩ : Nd), Value.slice Ak Ks.length ck)])) := Lib.hid (HN10.out.below hb5)
        clear hro
        go_wp2_with fail
        refine jump_ret ?_
        go_ret2
        refine ⟨?_, hB5⟩
        rw [HJ5.out]
        exact ⟨_, _, rfl, HN5.out, HMF.out⟩
      | false =>
        have HJ5 : Hid (joinN kind text l = none) := Lib.hid (by rw [HJ1.out, hro]; rfl)
        have he5 : errNodeAt a w5 := (hb5.cell (p := ⟨0, 0, none⟩) (cell_lt HE10.out)).trans HE10.out
        have y2 : w5.cell? ⟨w.heap.size, 2, none⟩ = some .nilIface := by rw [cell_of_row0 hT5]; rfl
        have y3 : w5.frozen? ⟨w.heap.size, 2, none⟩ = false := frozen_of_row w5 _ 2 _ _ hT5
        have hB6 := hB5.setCell (p := ⟨w.heap.size, 2, none⟩) (Nat.le_refl _) (.iface 216 (.pointer (some a)))
        have he6 : errNodeAt a (w5.setCell ⟨w.heap.size, 2, none⟩ (.iface 216 (.pointer (some a)))) := (hB6.cell (p := ⟨0, 0, none⟩) hgl).trans HE.out
        have HTo := Lib.hid (told_err a _ he6)
        have hT6 := heap_setCell_same w5 _ 2 _ _ (.iface 216 (.pointer (some a))) hT5
        have y6 : (w5.setCell ⟨w.heap.size, 2, none⟩ (.iface 216 (.pointer (some a)))).cell? ⟨w.heap.size, 2, none⟩ = some (.iface 216 (.pointer (some a))) := by rw [cell_of_row0 hT6]; simp
        clear hro
        go_wp2_with fail
        go_step3
        go_wp2_with fail
        refine HTo.out.mono ?_
        rintro e w8 ⟨rfl, rfl⟩
        go_wp2_with fail
        refine jump_ret ?_
        go_ret2
        exact ⟨by rw [HJ5.out]; rfl, hB6⟩
end Go.Proofs.YtebejlnegalokaaGreatDoor.Nz
