/-
  The walks of a lexer's steps, further: remarks, names, others.
-/
import Derived.Test.YteojnejomgomjaaDoorProg
import Derived.Test.YteojnejomgomjaaDoorReg
import Derived.WalkKit
import Derived.WalkSpells
import Derived.WalkLawsBesides
import Derived.Lib.Hide
import Derived.Lib.MinMax
import Derived.Deep.QuietTactic
import Derived.BigQuiet
import Derived.OwnWalk
import Derived.Deep.AppendLies
import Derived.KernelRfl
import Derived.Test.YteojnejomgomjaaDoorRegZ
import Derived.Test.YteojnejomgomjaaDoorLxB
set_option linter.unusedSimpArgs false
set_option linter.unusedVariables false
namespace Go.Proofs.YteojnejomgomjaaDoor
open Go.RowKit Go.Maps

set_option maxRecDepth 100000 in
set_option maxHeartbeats 4000000 in
theorem remark_any (X : Nat) (s : ByteArray) (w : World) (hL : LexAt w X s) (hs : s.size ≤ 1000000) :
    Calls Tryd.prog 25 #[.pointer (some ⟨X, 0, none⟩)] w fun e w' => e = .returned (tRemark s).val ∧ Below w.heap.size w w' := by
  have hB0 := below_new w (.cells zTok tK)
  have hX0 := heap_alloc_new w (.cells zTok tK)
  have hz0 : (w.alloc (.cells zTok tK)).heap.size = w.heap.size + 1 := by simp
  have hL0 := hL.below hB0
  have hg2 := gFirst_glyph s
  obtain ⟨c0, c1, c2⟩ := hL0.cells
  have HW := Lib.hid (class_any (gFirst s).1 (w.alloc (.cells zTok tK)) (by unfold maxLen; omega))
  have HE : Hid (tRemark s = if gClass (gFirst s).1 = 6 then ⟨2, s, (gFirst s).1⟩ else noTok) := Lib.hid rfl
  have HL0 := Lib.hid hL0
  clear hL0 hL
  have HG : Hid (∀ W : World, LexAt W X s → W.cell? ⟨X, 0, none⟩ = some (.string s) ∧ W.cell? ⟨X, 1, none⟩ = some (.string (gFirst s).1)) := Lib.hid (fun W h => ⟨h.cells.1, h.cells.2.1⟩)
  generalize (gFirst s).1 = g at *
  generalize gClass g = cl at *
  by_cases hn : cl = 6
  · subst hn
    rw [if_pos rfl] at HE
    go_enter Tryd.func25, Tryd.ntmps25
    go_wp2_with fail
    refine HW.out.mono ?_
    rintro e w1 ⟨rfl, hb1⟩
    have hB1 : Below w.heap.size w w1 := hB0.trans (hb1.mono (by omega))
    have hL1 := HL0.out.below hb1
    have hX1 := (hb1.block w.heap.size (by omega)).trans hX0
    obtain ⟨d0, d1⟩ := HG.out w1 hL1
    have HT := Lib.hid (token_any X s g 2 s.size w1.drew d0 (Nat.le_refl _) hs)
    have e0 : s.extract 0 s.size = s := ext_all s (Nat.le_refl _)
    rw [e0] at HT
    clear e0 c0 c1 c2
    go_wp2_with fail
    refine wp_region_ordz (S := fun w' => w'.cell? ⟨X, 0, none⟩ = some (.string s) ∧ w'.cell? ⟨X, 1, none⟩ = some (.string g)) [0, 1, 2, 3, 4, 5, 6, 7, 8, 9, 10] [11, 12] 12 (by kernel_rfl) (by kernel_rfl) (fun _ _ _ _ _ h => h) ⟨d0, d1⟩ ?_
    simp only [pick, List.filterMap_cons, List.filterMap_nil, List.getElem?_toArray, List.getElem?_cons_zero, List.getElem?_cons_succ]
    repeat (refine wpHead_step (v := ?_) rfl ?_ ?_; rotate_left; (focus (rintro w1 ⟨d0', d1'⟩; go_simp; try with_reducible rfl)); simp only [Act.put, List.setIfInBounds_toArray, List.set_cons_zero, List.set_cons_succ])
    refine wpHead_nil ?_
    refine wpTailZ_step rfl (fun K hK => ?_)
    go_wp2_with fail
    refine HT.out.mono ?_
    rintro e w2 ⟨rfl, hb2⟩
    have hB2 : Below w.heap.size w w2 := hB1.trans (((Below.refl _ w1).drew).trans (hb2.mono hB1.size))
    have hX2 := (hb2.block w.heap.size (by have := hb1.size; show w.heap.size < w1.heap.size; omega)).trans hX1
    have f0 := (hb2.cell (p := ⟨X, 0, none⟩) (show X < w1.heap.size from hL1.lt)).trans d0
    have f1 := (hb2.cell (p := ⟨X, 1, none⟩) (show X < w1.heap.size from hL1.lt)).trans d1
    have x0_hX2 : w2.cell? ⟨w.heap.size, 0, none⟩ = some (.int .i64 0) := by simp [World.cell?, hX2]
    have x1_hX2 : w2.cell? ⟨w.heap.size, 1, none⟩ = some (.string ⟨#[]⟩) := by simp [World.cell?, hX2]
    have x2_hX2 : w2.cell? ⟨w.heap.size, 2, none⟩ = some (.string ⟨#[]⟩) := by simp [World.cell?, hX2]
    have z_hX2 : ∀ j, w2.frozen? ⟨w.heap.size, j, none⟩ = false := fun j => frozen_of_row w2 _ j _ _ hX2
    clear HW HT hb1 hb2 hL1 hX1 hX0
    go_wp2_with fail
    refine hK _ _ ⟨f0, f1⟩ ?_
    clear hK K
    try simp only [Act.put, List.setIfInBounds_toArray, List.set_cons_zero, List.set_cons_succ]
    refine wpTailZ_last rfl (fun K hK => ?_)
    go_wp2_with fail
    have hR9 := set3 (b1 := .int .i64 2) (b2 := .string s) (b3 := .string g) hX2
    have hB9 := ((hB2.setCell (p := ⟨w.heap.size, 0, none⟩) (Nat.le_refl _) (.int .i64 2)).setCell (p := ⟨w.heap.size, 1, none⟩) (Nat.le_refl _) (.string s)).setCell (p := ⟨w.heap.size, 2, none⟩) (Nat.le_refl _) (.string g)
    generalize (((w2.setCell ⟨w.heap.size, 0, none⟩ (.int .i64 2)).setCell ⟨w.heap.size, 1, none⟩ (.string s)).setCell ⟨w.heap.size, 2, none⟩ (.string g)) = W9 at *
    have y0 : W9.cell? ⟨w.heap.size, 0, none⟩ = some (.int .i64 2) := by simp [World.cell?, hR9]
    have y1 : W9.cell? ⟨w.heap.size, 1, none⟩ = some (.string s) := by simp [World.cell?, hR9]
    have y2 : W9.cell? ⟨w.heap.size, 2, none⟩ = some (.string g) := by simp [World.cell?, hR9]
    exact bodyPost_ret (v := .agg #[.int .i64 2, .string s, .string g]) (by simp [results, Tryd.results25, go_sem, y0, y1, y2]) rfl ⟨by rw [HE.out]; rfl, hB9⟩
  · rw [if_neg hn] at HE
    have q : (cl == 6) = false := by simpa using hn
    go_enter Tryd.func25, Tryd.ntmps25
    go_wp2_with fail
    refine HW.out.mono ?_
    rintro e w1 ⟨rfl, hb1⟩
    have hB1 : Below w.heap.size w w1 := hB0.trans (hb1.mono (by omega))
    have hX1 := (hb1.block w.heap.size (by omega)).trans hX0
    have x0_hX1 : w1.cell? ⟨w.heap.size, 0, none⟩ = some (.int .i64 0) := by simp [World.cell?, hX1]
    have x1_hX1 : w1.cell? ⟨w.heap.size, 1, none⟩ = some (.string ⟨#[]⟩) := by simp [World.cell?, hX1]
    have x2_hX1 : w1.cell? ⟨w.heap.size, 2, none⟩ = some (.string ⟨#[]⟩) := by simp [World.cell?, hX1]
    have z_hX1 : ∀ j, w1.frozen? ⟨w.heap.size, j, none⟩ = false := fun j => frozen_of_row w1 _ j _ _ hX1
    clear HW hb1 hX0
    go_wp2_with fail
    have hR9 := set3 (b1 := .int .i64 0) (b2 := .string (ByteArray.mk #[])) (b3 := .string (ByteArray.mk #[])) hX1
    have hB9 := ((hB1.setCell (p := ⟨w.heap.size, 0, none⟩) (Nat.le_refl _) (.int .i64 0)).setCell (p := ⟨w.heap.size, 1, none⟩) (Nat.le_refl _) (.string (ByteArray.mk #[]))).setCell (p := ⟨w.heap.size, 2, none⟩) (Nat.le_refl _) (.string (ByteArray.mk #[]))
    generalize (((w1.setCell ⟨w.heap.size, 0, none⟩ (.int .i64 0)).setCell ⟨w.heap.size, 1, none⟩ (.string (ByteArray.mk #[]))).setCell ⟨w.heap.size, 2, none⟩ (.string (ByteArray.mk #[]))) = W9 at *
    have y0 : W9.cell? ⟨w.heap.size, 0, none⟩ = some (.int .i64 0) := by simp [World.cell?, hR9]
    have y1 : W9.cell? ⟨w.heap.size, 1, none⟩ = some (.string (ByteArray.mk #[])) := by simp [World.cell?, hR9]
    have y2 : W9.cell? ⟨w.heap.size, 2, none⟩ = some (.string (ByteArray.mk #[])) := by simp [World.cell?, hR9]
    exact bodyPost_ret (v := .agg #[.int .i64 0, .string (ByteArray.mk #[]), .string (ByteArray.mk #[])]) (by simp [results, Tryd.results25, go_sem, y0, y1, y2]) rfl ⟨by rw [HE.out]; rfl, hB9⟩

/-- The tables that decoding reads. -/
abbrev Tabs (w : World) : Prop := Lib.Utf8Tabs (Lay_lays197_ren.g 3) (Lay_lays197_ren.g 4) w
theorem Tabs.below {w w' : World} (h : Tabs w) (hb : Below w.heap.size w w') : Tabs w' := Utf8Tabs_below h hb
theorem step_le {s : ByteArray} (h : 0 < s.size) : dStep s ≤ s.size := (dStep_range h).2

set_option maxRecDepth 100000 in
set_option maxHeartbeats 4000000 in
theorem other_any (X : Nat) (s : ByteArray) (w : World) (hL : LexAt w X s) (hT : Tabs w) (h1 : 0 < s.size) (hs : s.size ≤ 1000000) :
    Calls Tryd.prog 30 #[.pointer (some ⟨X, 0, none⟩)] w fun e w' => e = .returned (tOther s).val ∧ Below w.heap.size w w' := by
  have hB0 := below_new w (.cells zTok tK)
  have hX0 := heap_alloc_new w (.cells zTok tK)
  have hz0 : (w.alloc (.cells zTok tK)).heap.size = w.heap.size + 1 := by simp
  have hL0 := hL.below hB0
  have c0 := hL0.cells.1
  have hd : Lib.decodeGo s = Utf8.decode s 0 := by unfold Lib.decodeGo; rw [if_neg (by omega)]
  have HD := Lay_utf8_DecodeRuneInString s _ (hT.below hB0)
  rw [hd] at HD
  have hle := step_le h1
  have HE : Hid (tOther s = ⟨10, s.extract 0 (dStep s), noText⟩) := Lib.hid rfl
  unfold dStep at HE hle
  have HD := Lib.hid HD
  generalize Utf8.decode s 0 = d at *
  clear hd hL hT
  go_enter Tryd.func30, Tryd.ntmps30
  go_wp2_with fail
  refine HD.out.mono ?_
  rintro e w1 ⟨rfl, hb1⟩
  have hB1 : Below w.heap.size w w1 := hB0.trans (hb1.mono (by omega))
  have hL1 := hL0.below hb1
  have hX1 := (hb1.block w.heap.size (by omega)).trans hX0
  have HT := Lib.hid (token_any X s ByteArray.empty 10 d.2 w1 hL1.cells.1 hle hs)
  go_wp2_with fail
  refine HT.out.mono ?_
  rintro e w2 ⟨rfl, hb2⟩
  have hB2 : Below w.heap.size w w2 := hB1.trans (hb2.mono hB1.size)
  have hX2 := (hb2.block w.heap.size (by have := hb1.size; omega)).trans hX1
  have x0_hX2 : w2.cell? ⟨w.heap.size, 0, none⟩ = some (.int .i64 0) := by simp [World.cell?, hX2]
  have x1_hX2 : w2.cell? ⟨w.heap.size, 1, none⟩ = some (.string ⟨#[]⟩) := by simp [World.cell?, hX2]
  have x2_hX2 : w2.cell? ⟨w.heap.size, 2, none⟩ = some (.string ⟨#[]⟩) := by simp [World.cell?, hX2]
  have z_hX2 : ∀ j, w2.frozen? ⟨w.heap.size, j, none⟩ = false := fun j => frozen_of_row w2 _ j _ _ hX2
  clear HD HT hb1 hb2 hL1 hL0 hX1 hX0
  go_wp2_with fail
  have hR9 := set3 (b1 := .int .i64 10) (b2 := .string (s.extract 0 d.2)) (b3 := .string ByteArray.empty) hX2
  have hB9 := ((hB2.setCell (p := ⟨w.heap.size, 0, none⟩) (Nat.le_refl _) (.int .i64 10)).setCell (p := ⟨w.heap.size, 1, none⟩) (Nat.le_refl _) (.string (s.extract 0 d.2))).setCell (p := ⟨w.heap.size, 2, none⟩) (Nat.le_refl _) (.string ByteArray.empty)
  generalize (((w2.setCell ⟨w.heap.size, 0, none⟩ (.int .i64 10)).setCell ⟨w.heap.size, 1, none⟩ (.string (s.extract 0 d.2))).setCell ⟨w.heap.size, 2, none⟩ (.string ByteArray.empty)) = W9 at *
  have y0 : W9.cell? ⟨w.heap.size, 0, none⟩ = some (.int .i64 10) := by simp [World.cell?, hR9]
  have y1 : W9.cell? ⟨w.heap.size, 1, none⟩ = some (.string (s.extract 0 d.2)) := by simp [World.cell?, hR9]
  have y2 : W9.cell? ⟨w.heap.size, 2, none⟩ = some (.string ByteArray.empty) := by simp [World.cell?, hR9]
  exact bodyPost_ret (v := .agg #[.int .i64 10, .string (s.extract 0 d.2), .string ByteArray.empty]) (by simp [results, Tryd.results30, go_sem, y0, y1, y2]) rfl ⟨by rw [HE.out]; rfl, hB9⟩

end Go.Proofs.YteojnejomgomjaaDoor
