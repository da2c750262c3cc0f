/-
  A splice that is right: by the program.
-/
import Derived.Test.YtflpihedhccdfaaGreatDoorProg
import Derived.Test.YtflpihedhccdfaaGreatDoorReg
import Derived.WalkKit
import Derived.WalkSpells
import Derived.WalkLawsBesides
import Derived.Lib.Hide
import Derived.Lib.MinMax
import Derived.Deep.QuietTactic
import Derived.BigQuiet
import Derived.OwnWalk
import Derived.Deep.AppendLies
import Derived.KernelRfl
import Derived.Laws.OwnMore
import Derived.Deep.OwnRows
import Derived.Deep.RegionWith
import Derived.Test.YtflpihedhccdfaaGreatDoorRw5
import Derived.Test.YtflpihedhccdfaaGreatDoorLxM5
import Derived.Test.YtflpihedhccdfaaGreatDoorRegZ
set_option linter.unusedSimpArgs false
set_option linter.unusedVariables false
namespace Go.Proofs.YtflpihedhccdfaaGreatDoor
open Go Go.RowKit

set_option maxRecDepth 100000 in
set_option maxHeartbeats 16000000 in
theorem Splice_right (base X : Nat) (v : Value) (ls : List Ln) (t : ByteArray) (q : Int) (p n : Nat) (s : ByteArray) (w : World)
    (h : LexV w base X v ls t q) (ht : t.size ≤ 4000) (hq : 0 ≤ q ∧ q ≤ 900000000) (hpn : p + n ≤ t.size) (hs : s.size ≤ 1000000)
    (hr : (t.size : Int) - n + s.size ≤ 4000) (hT : Tabs w) :
    Calls Tryz.prog 12 #[.pointer (some ⟨X, 0, none⟩), .int .i64 p, .int .i64 n, .string s] w fun e w' =>
      e = .returned (.tuple #[.agg #[.int .i64 (chgS t p n s).fro, .int .i64 (chgS t p n s).old, .int .i64 (chgS t p n s).new], .int .i64 0]) ∧
      (∃ v' ls', LexV w' base X v' ls' (putS t p n s) (q + (chgS t p n s).new)) ∧ ButLex w w' X v := by
  obtain ⟨f, d, fb, gb, x, z, M, hSA⟩ := splice_at hpn h.txt
  rw [hSA.chg]
  have hll : ls.length = (piecesB t).length := by rw [← h.txt, textsOf_len]
  have hf : f + d < ls.length := (List.getElem?_eq_some_iff.1 hSA.lz).1
  obtain ⟨g, cap, rfl, hbg, hgl⟩ := h.own.form (by omega)
  obtain ⟨A, c, eA, -, hH, hcap⟩ := holdsL_of_own h.own
  obtain ⟨rfl, rfl⟩ : A = some ⟨g, 0, none⟩ ∧ c = cap := by cases eA; exact ⟨rfl, rfl⟩
  have c0 : w.cell? ⟨X, 0, none⟩ = some (.slice (some ⟨g, 0, none⟩) ls.length c) := by simp [World.cell?, h.at_]
  have hst := startL_size h.txt
  have hpl := pieces_le t
  have lX := cell_lt c0
  simp only at lX
  obtain ⟨off, hoff⟩ : ∃ off : Nat, off = 0 := ⟨0, rfl⟩
  obtain ⟨bx, ox, ex, cx, -⟩ := hH f x hSA.lx
  obtain ⟨bz, oz, ez, cz, -⟩ := hH (f + d) z hSA.lz
  cases ex
  cases ez
  obtain ⟨j, hj⟩ : ∃ j, j = f + d := ⟨_, rfl⟩
  rw [← hj] at hf cz
  have hb1 := below_new w (.cells #[.int .i64 0, .int .i64 0, .int .i64 0] 29)
  have HW := whole_any X (some ⟨g, 0, none⟩) c ls (w.alloc (.cells #[.int .i64 0, .int .i64 0, .int .i64 0] 29)) (by omega) (by omega) ((hb1.cell (p := ⟨X, 0, none⟩) lX).trans c0) (hH.below hb1)
  rw [joinT_is h.txt] at HW
  have HW := Lib.hid HW
  have HF1 : Hid (∀ W, Below w.heap.size w W → Calls Tryz.prog 30 #[.pointer (some ⟨X, 0, none⟩), .int .i64 (p : Int)] W fun e w' => e = .returned (.tuple #[.int .i64 (f : Int), .int .i64 (fb : Int)]) ∧ Below W.heap.size W w') := Lib.hid fun W hb => by
    have h1 := find_any p X (some ⟨g, 0, none⟩) c ls W (by omega) (by omega) (by omega) ((hb.cell (p := ⟨X, 0, none⟩) lX).trans c0) (hH.below hb)
    rw [find_is p h.txt, hSA.fnd] at h1
    exact h1
  have HF2 : Hid (∀ W, Below w.heap.size w W → Calls Tryz.prog 30 #[.pointer (some ⟨X, 0, none⟩), .int .i64 ((p : Int) + (n : Int))] W fun e w' => e = .returned (.tuple #[.int .i64 (j : Int), .int .i64 (gb : Int)]) ∧ Below W.heap.size W w') := Lib.hid fun W hb => by
    have h1 := find_any (p + n) X (some ⟨g, 0, none⟩) c ls W (by omega) (by omega) (by omega) ((hb.cell (p := ⟨X, 0, none⟩) lX).trans c0) (hH.below hb)
    rw [find_is (p + n) h.txt, hSA.fnd2, ← hj] at h1
    exact h1
  have HB1 := Lib.hid hb1
  have hR0 := heap_alloc_new w (.cells #[.int .i64 0, .int .i64 0, .int .i64 0] 29)
  have HR0 := Lib.hid hR0
  have HC0 := Lib.hid c0
  have HCX := Lib.hid cx
  have HCZ := Lib.hid cz
  have HH := Lib.hid hH
  have HT := Lib.hid hT
  have HLX := Lib.hid h
  have g1 : ¬ ((p : Int) < 0) := by omega
  have g2 : ¬ ((t.size : Int) < (p : Int)) := by omega
  have g3 : ¬ ((n : Int) < 0) := by omega
  have g4 : ¬ ((t.size : Int) - (p : Int) < (n : Int)) := by omega
  have g5 : ¬ ((4000 : Int) < (t.size : Int) - n + s.size) := by omega
  have HSA := Lib.hid hSA
  have b1 := hSA.b1
  have b2 := hSA.b2
  have b3 := hSA.b3
  have b4 := hSA.b4
  have hMs := hSA.size
  have hfj : f ≤ j := by omega
  have HJ := Lib.hid hj
  have hls5 : ls.length ≤ 5000 := by omega
  clear h hb1 hR0 hst hll hpl c0 cx cz hH hT hSA hj eA
  go_enter Tryz.func12, Tryz.ntmps12
  go_wp2_with fail
  refine HW.out.mono ?_
  rintro e w2 ⟨rfl, hb2⟩
  have hz2 := hb2.size
  simp only [World.size_alloc] at hz2
  have hlow2 := HB1.out.trans (hb2.mono (by simp))
  have hrow2 := (hb2.block w.heap.size (by simp)).trans HR0.out
  have HL2 := Lib.hid hlow2
  have HRo2 := Lib.hid hrow2
  have HF1w := Lib.hid (HF1.out w2 hlow2)
  clear hrow2 hlow2 hb2 HW HB1 HR0
  go_wp2_with fail
  refine HF1w.out.mono ?_
  rintro e w3 ⟨rfl, hb3⟩
  have hlow3 := HL2.out.trans (hb3.mono (by omega))
  have hrow3 := (hb3.block w.heap.size (by omega)).trans HRo2.out
  have hz3 := hb3.size
  have HL3 := Lib.hid hlow3
  have HRo3 := Lib.hid hrow3
  have HF2w := Lib.hid (HF2.out w3 hlow3)
  clear hlow3 hrow3 hb3 HL2 HRo2 HF1w HF1
  go_wp2_with fail
  refine HF2w.out.mono ?_
  rintro e w4 ⟨rfl, hb4⟩
  have hlow4 := HL3.out.trans (hb4.mono (by omega))
  have hrow4 := (hb4.block w.heap.size (by omega)).trans HRo3.out
  have hz4 := hb4.size
  have HL4 := Lib.hid hlow4
  have HRo4 := Lib.hid hrow4
  clear hlow4 hrow4 hb4 HL3 HRo3 HF2w HF2
  go_wp2_with fail
  have c0 := (HL4.out.cell (p := ⟨X, 0, none⟩) lX).trans HC0.out
  have cx := (HL4.out.cell (p := ⟨g, 0 + f * 2, none⟩) hgl).trans HCX.out
  have cz := (HL4.out.cell (p := ⟨g, 0 + j * 2, none⟩) hgl).trans HCZ.out
  rw [Nat.zero_add] at cx cz
  have hMe : x.text.extract 0 (p - fb) ++ s ++ z.text.extract (p + n - gb) z.text.size = M := HSA.out.mid.symm
  have i1 : (0 : Int) ≤ (f : Int) := by omega
  have i2 : (f : Int) < (ls.length : Int) := by omega
  have i3 : (0 : Int) ≤ (j : Int) := by omega
  have i4 : (j : Int) < (ls.length : Int) := by omega
  obtain ⟨k1, hk1⟩ : ∃ k1, k1 = p - fb := ⟨_, rfl⟩
  obtain ⟨k2, hk2⟩ : ∃ k2, k2 = p + n - gb := ⟨_, rfl⟩
  rw [← hk1, ← hk2] at hMe
  have i5 : IntKind.i64.wrap ((p : Int) - (fb : Int)) = (k1 : Int) := (IntWalk.i64_in _ (by omega)).trans (by omega)
  have i6 : IntKind.i64.wrap ((p : Int) + (n : Int)) = (p : Int) + (n : Int) := IntWalk.i64_in _ (by omega)
  have i7 : IntKind.i64.wrap ((p : Int) + (n : Int) - (gb : Int)) = (k2 : Int) := (IntWalk.i64_in _ (by omega)).trans (by omega)
  have i8 : (k1 : Int) ≤ (x.text.size : Int) := by omega
  have i9 : (k2 : Int) ≤ (z.text.size : Int) := by omega
  have hMz := congrArg ByteArray.size hMe
  rw [ByteArray.size_append, ByteArray.size_append, ByteArray.size_extract, ByteArray.size_extract] at hMz
  have i10 : ¬ (9223372036854775807 < min k1 x.text.size + s.size) := by omega
  have i11 : ¬ (9223372036854775807 < min k1 x.text.size + s.size + (z.text.size - k2)) := by omega
  clear hk1 hk2 hMz
  obtain ⟨T, hT⟩ : ∃ T, T = piecesB M := ⟨_, rfl⟩
  obtain ⟨V, hV⟩ : ∃ V, (w4.alloc (.cells (T.map Value.string).toArray 9)).drew = V := ⟨_, rfl⟩
  have HSp : Hid (Calls Tryz.prog 28 #[.string M, .string ⟨#[10]⟩] w4.drew fun e w' => e = .returned (.slice (some ⟨w4.heap.size, 0, none⟩) T.length T.length) ∧ w' = V) := Lib.hid ((split_any M w4.drew (by omega)).mono fun e w' ⟨h1, h2⟩ => ⟨by rw [h1, hT]; rfl, by rw [h2, ← hV, hT]; rfl⟩)
  have hbV : Below w4.heap.size w4 V := by rw [← hV]; exact (below_new _ _).drew
  have hrow : V.heap[w4.heap.size]? = some (.cells (T.map Value.string).toArray 9 (0, 0)) := by rw [← hV]; exact heap_alloc_new _ _
  have hsV : V.heap.size = w4.heap.size + 1 := by rw [← hV]; simp
  have hHV : HoldsS V (some ⟨w4.heap.size, 0, none⟩) T := fun k x hx => ⟨_, 0, rfl, by rw [Nat.zero_add]; exact row_string hrow k x hx⟩
  have hTl : T.length = (piecesB s).length := by rw [hT]; exact HSA.out.new
  have hcount := pieces_le s
  have hc0 := (hbV.cell (p := ⟨X, 0, none⟩) (by have := HL4.out.size; simp only; omega)).trans c0
  have hcx := (hbV.cell (p := ⟨g, f * 2, none⟩) (by have := HL4.out.size; simp only; omega)).trans cx
  have hcz := (hbV.cell (p := ⟨g, j * 2, none⟩) (by have := HL4.out.size; simp only; omega)).trans cz
  have HbV := Lib.hid hbV
  have HHV := Lib.hid hHV
  have HTL := Lib.hid hTl
  have HC := Lib.hid hc0
  have HX := Lib.hid hcx
  have HZ := Lib.hid hcz
  have hTs : T.length ≤ 5000 := by omega
  have hT1 : 0 < T.length := by rw [hTl]; exact List.length_pos_iff.2 (pieces_ne s)
  clear hV hbV hrow hHV hTl hcount hc0 hcx hcz
  have HTP := Lib.hid hT
  have HME := Lib.hid hMe
  clear hT hMe
  refine wp_region_ord (S := fun w' => w'.cell? ⟨X, 0, none⟩ = some (.slice (some ⟨g, 0, none⟩) ls.length c) ∧ w'.cell? ⟨g, f * 2, none⟩ = some (.string x.text) ∧ w'.cell? ⟨g, j * 2, none⟩ = some (.string z.text)) [0, 1, 2, 3, 4, 5, 6, 7, 8, 9, 10, 11, 12, 13, 14, 15, 16, 17, 18, 19, 20, 21, 22, 23, 24, 25, 26, 27, 28, 29, 30] [31, 32] (by kernel_rfl) (by kernel_rfl) (fun _ _ _ _ _ h => h) ⟨c0, cx, cz⟩ ?_
  simp only [pick, List.filterMap_cons, List.filterMap_nil, List.getElem?_toArray, List.getElem?_cons_zero, List.getElem?_cons_succ]
  repeat (refine wpHead_step (v := ?_) rfl ?_ ?_; rotate_left; (focus (rintro w1 ⟨c0, cx, cz⟩; go_simp; try with_reducible rfl)); simp only [Act.put, List.setIfInBounds_toArray, List.set_cons_zero, List.set_cons_succ])
  refine wpHead_nil ?_
  refine wpTail_step rfl (fun K hK => ?_)
  rw [HME.out]
  go_wp2_with fail
  refine HSp.out.mono ?_
  rintro e w5 ⟨rfl, rfl⟩
  go_wp2_with fail
  refine hK _ _ ⟨HC.out, HX.out, HZ.out⟩ ?_
  clear hK K
  try simp only [Act.put, List.setIfInBounds_toArray, List.set_cons_zero, List.set_cons_succ]
  refine wpTail_step rfl (fun K hK => ?_)
  go_wp2_with fail
  refine hK _ _ ⟨HC.out, HX.out, HZ.out⟩ ?_
  clear hK K
  try simp only [Act.put, List.setIfInBounds_toArray, List.set_cons_zero, List.set_cons_succ]
  refine wpTail_nil ?_
  have j1 : IntKind.i64.wrap ((j : Int) - (f : Int)) = (j : Int) - (f : Int) := IntWalk.i64_in _ (by omega)
  have j2 : IntKind.i64.wrap ((j : Int) - (f : Int) + 1) = (j : Int) - (f : Int) + 1 := IntWalk.i64_in _ (by omega)
  clear HSp HME
  by_cases hA : f = j ∧ T.length = 1
  · obtain ⟨rfl, hk⟩ := hA
    obtain ⟨t0, rfl⟩ := List.length_eq_one_iff.1 hk
    go_wp2_with fail
    obtain ⟨W9, hW9⟩ : ∃ W9, (w5.alloc (.cells #[.int .i64 (f : Int), .int .i64 1, .int .i64 1] 29)).alloc (.cells #[.int .i64 (f : Int), .int .i64 1, .int .i64 1] 29) = W9 := ⟨_, rfl⟩
    have hb9 : Below w5.heap.size w5 W9 := by rw [← hW9]; exact (below_new _ _).trans ((below_new _ _).mono (by simp))
    have hz9 : W9.heap.size = w5.heap.size + 2 := by rw [← hW9]; simp
    have hC9 : W9.heap[w5.heap.size]? = some (.cells #[.int .i64 (f : Int), .int .i64 1, .int .i64 1] 29 (0, 0)) := by
      rw [← hW9]
      exact ((below_new _ _).block _ (by simp)).trans (heap_alloc_new _ _)
    rw [hW9]
    clear hW9
    have hl9 : Below w.heap.size w W9.drew := ((HL4.out.trans (HbV.out.mono (by have := HL4.out.size; omega))).trans (hb9.mono (by have := HL4.out.size; have := HbV.out.size; omega))).drew
    have hLX9 := HLX.out.below hl9
    have hR9 := (hb9.block w.heap.size (by omega)).trans ((HbV.out.block w.heap.size (by omega)).trans HRo4.out)
    have HLx := Lib.hid (lex_any X _ q _ 1 [t0] W9.drew (by simp) (fun y hy => by
      obtain rfl := List.mem_singleton.1 hy
      have := HTP.out
      have h1 : (piecesB M)[0]? = some y := by rw [← this]; rfl
      have := piece_small h1
      omega) (by omega) hLX9.at_ ((HHV.out.below hb9.drew)) (HT.out.below hl9))
    have c9 : W9.cell? ⟨X, 0, none⟩ = some (.slice (some ⟨g, 0, none⟩) ls.length c) := (hl9.cell (p := ⟨X, 0, none⟩) lX).trans HC0.out
    have HL9 := Lib.hid hl9
    have HLX9 := Lib.hid hLX9
    have HR9 := Lib.hid hR9
    have HC9 := Lib.hid hC9
    clear hb9 hl9 hLX9 hR9 hC9
    refine wp_region_ord (S := fun w' => w'.cell? ⟨X, 0, none⟩ = some (.slice (some ⟨g, 0, none⟩) ls.length c)) [0, 1, 2, 3, 4, 5, 6, 7, 8, 9] [10, 11, 12, 13, 14] (by kernel_rfl) (by kernel_rfl) (fun _ _ _ _ _ h => h) c9 ?_
    simp only [pick, List.filterMap_cons, List.filterMap_nil, List.getElem?_toArray, List.getElem?_cons_zero, List.getElem?_cons_succ]
    repeat (refine wpHead_step (v := ?_) rfl ?_ ?_; rotate_left; (focus (rintro w1 c9; go_simp; try with_reducible rfl)); simp only [Act.put, List.setIfInBounds_toArray, List.set_cons_zero, List.set_cons_succ])
    refine wpHead_nil ?_
    refine wpTail_step rfl (fun K hK => ?_)
    go_wp2_with fail
    refine HLx.out.mono ?_
    rintro e w6 ⟨v1, ls1, rfl, hl1, ht1, ho1, hr1, hg1, hx1⟩
    obtain ⟨y1, rfl⟩ : ∃ y1, ls1 = [y1] := by
      cases ls1 with
      | nil => simp at hl1
      | cons y1 ls1 =>
        cases ls1 with
        | nil => exact ⟨y1, rfl⟩
        | cons _ _ => simp at hl1
    obtain rfl : y1.text = t0 := by simpa [textsOf] using ht1
    obtain ⟨g1, cc1, rfl, -, -⟩ := ho1.form (by simp)
    have c6 : w6.cell? ⟨X, 0, none⟩ = some (.slice (some ⟨g, 0, none⟩) ls.length c) := by simp [World.cell?, hx1]
    have d0 : w6.cell? ⟨g1, 0, none⟩ = some (.string y1.text) := (ho1.cellAt 0 (by simp)).trans (by simp [lnCells, Ln.cells])
    have d1 : w6.cell? ⟨g1, 1, none⟩ = some (.slice y1.row y1.n y1.c) := (ho1.cellAt 1 (by simp)).trans (by simp [lnCells, Ln.cells])
    have ho6 := HLX9.out.own.kept (w := W9.drew) hg1 (Or.inr (own_apart_cells HLX9.out.own HLX9.out.at_ (by decide)))
    have hr6 := HLX9.out.right.other hg1 HLX9.out.at_ (by decide)
    have z0 : ∀ k, w6.frozen? ⟨g, k, none⟩ = false := fun k => ho6.frozenAt k
    have e0 : w6.cell? ⟨g, f * 2, none⟩ = some (.string x.text) := (ho6.cellAt (f * 2) (by omega)).trans (lnCells_get ls f x HSA.out.lx).1
    have e1 : w6.cell? ⟨g, f * 2 + 1, none⟩ = some (.slice x.row x.n x.c) := (ho6.cellAt (f * 2 + 1) (by omega)).trans (lnCells_get ls f x HSA.out.lx).2
    have HO6 := Lib.hid ho6
    have HR6 := Lib.hid hr6
    have HG1 := Lib.hid hg1
    have HX1 := Lib.hid hx1
    have HRR := Lib.hid hr1
    clear ho6 hr6 hg1 hx1 ho1 hr1 ht1 hl1
    go_wp2_with fail
    refine hK _ _ c6 ?_
    clear hK K
    try simp only [Act.put, List.setIfInBounds_toArray, List.set_cons_zero, List.set_cons_succ]
    refine wpTail_step rfl (fun K hK => ?_)
    go_wp2_with fail
    refine hK _ _ c6 ?_
    clear hK K
    try simp only [Act.put, List.setIfInBounds_toArray, List.set_cons_zero, List.set_cons_succ]
    refine wpTail_step rfl (fun K hK => ?_)
    go_wp2_with fail
    refine hK _ _ c6 ?_
    clear hK K
    try simp only [Act.put, List.setIfInBounds_toArray, List.set_cons_zero, List.set_cons_succ]
    refine wpTail_step rfl (fun K hK => ?_)
    go_wp2_with fail
    refine hK _ _ c6 ?_
    clear hK K
    try simp only [Act.put, List.setIfInBounds_toArray, List.set_cons_zero, List.set_cons_succ]
    refine wpTail_step rfl (fun K hK => ?_)
    go_wp2_with fail
    have hgX : X ≠ g := fun e => own_apart_cells HO6.out HX1.out (by decide) (by simp [Value.ownBlock, e])
    have st1 := HO6.out.stored (f * 2) (.string y1.text)
    have st2 := st1.1.stored (f * 2 + 1) (.slice y1.row y1.n y1.c)
    obtain ⟨W7, hW7⟩ : ∃ W7, ((w6.setCell ⟨g, f * 2, none⟩ (.string y1.text)).setCell ⟨g, f * 2 + 1, none⟩ (.slice y1.row y1.n y1.c)) = W7 := ⟨_, rfl⟩
    rw [hW7] at st2 ⊢
    have hg7 : w6.grownBy W7 (some g) := by
      refine ⟨st2.2.os.trans st1.2.os, st2.2.tape.trans st1.2.tape, st2.2.output.trans st1.2.output, Nat.le_trans st1.2.size st2.2.size, fun k hk hne => ?_⟩
      exact (st2.2.block k (Nat.lt_of_lt_of_le hk st1.2.size) hne).trans (st1.2.block k hk hne)
    have hx7 := (hg7.block X (Array.getElem?_eq_some_iff.1 HX1.out).1 (by simpa using hgX)).trans HX1.out
    have c7 : W7.cell? ⟨X, 0, none⟩ = some (.slice (some ⟨g, 0, none⟩) ls.length c) := by simp [World.cell?, hx7]
    have ho7 := st2.1
    rw [lnCells_set ls f y1 (by omega)] at ho7
    obtain ⟨cur, hcur⟩ : ∃ cur, w6.heap[g]? = some (.cells cur 75 (0, 0)) := by
      rcases HO6.out.2 with ⟨e, _⟩ | ⟨g', _, cur, e, _, hg', _⟩
      · cases e
      · cases e; exact ⟨cur, hg'⟩
    have hr7 : RightL W7 (ls.set f y1) := fun y hy => by
      rcases List.mem_or_eq_of_mem_set hy with hy | rfl
      · exact (HR6.out.other hg7 hcur (by decide)) y hy
      · exact (HRR.out.other hg7 hcur (by decide)) _ (List.mem_singleton_self _)
    have hd0 : d = 0 := by have := HJ.out; omega
    have hTL := HTL.out
    simp only [List.length_singleton] at hTL
    have hput : textsOf (ls.set f y1) = piecesB (putS t p n s) := by
      rw [HSA.out.put, set_parts y1 (by omega), hd0, ← HTP.out]
      unfold textsOf
      simp
    have HLF : Hid (LexV W7 base X (.slice (some ⟨g, 0, none⟩) ls.length c) (ls.set f y1) (putS t p n s) (q + (piecesB s).length)) := by
      refine Lib.hid ⟨?_, by simpa using ho7, hput, hr7⟩
      rw [hx7, ← hTL]
      rfl
    have HBF : Hid (ButLex w W7 X (.slice (some ⟨g, 0, none⟩) ls.length c)) := Lib.hid (((ButLex.of_below HL9.out).trans (ButLex.of_grown HG1.out)).trans (ButLex.of_row hg7))
    have hs6 := HG1.out.size
    have hwn : w.heap.size < W9.heap.size := by have := HL4.out.size; have := HbV.out.size; omega
    have hR7 := (hg7.block w.heap.size (by simp only [World.drew] at hs6; omega) (by simp; omega)).trans ((HG1.out.block w.heap.size hwn (by simp; omega)).trans HR9.out)
    have hC7 := (hg7.block w5.heap.size (by simp only [World.drew] at hs6; omega) (by have := HL4.out.size; simp; omega)).trans ((HG1.out.block w5.heap.size (show w5.heap.size < W9.heap.size by omega) (by have := HL4.out.size; simp; omega)).trans HC9.out)
    have HR7 := Lib.hid hR7
    have HC7 := Lib.hid hC7
    have HTL2 := Lib.hid hTL
    have HD0 := Lib.hid hd0
    clear hd0
    clear hW7 st1 st2 hg7 hx7 ho7 hcur hr7 hput hR7 hC7 HO6 HR6 HG1 HX1 HRR HLx HLX9 HR9 HC9 HL9 hTL
    refine hK _ _ c7 ?_
    clear hK K
    try simp only [Act.put, List.setIfInBounds_toArray, List.set_cons_zero, List.set_cons_succ]
    refine wpTail_nil ?_
    have x0 : W7.cell? ⟨w5.heap.size, 0, none⟩ = some (.int .i64 (f : Int)) := by simp [World.cell?, HC7.out]
    have x1 : W7.cell? ⟨w5.heap.size, 1, none⟩ = some (.int .i64 1) := by simp [World.cell?, HC7.out]
    have x2 : W7.cell? ⟨w5.heap.size, 2, none⟩ = some (.int .i64 1) := by simp [World.cell?, HC7.out]
    rw [hsV] at x0 x1 x2
    have y0 : W7.cell? ⟨w.heap.size, 0, none⟩ = some (.int .i64 0) := by simp [World.cell?, HR7.out]
    have y1' : W7.cell? ⟨w.heap.size, 1, none⟩ = some (.int .i64 0) := by simp [World.cell?, HR7.out]
    have y2 : W7.cell? ⟨w.heap.size, 2, none⟩ = some (.int .i64 0) := by simp [World.cell?, HR7.out]
    have z7 : ∀ k, W7.frozen? ⟨w.heap.size, k, none⟩ = false := fun k => frozen_of_row W7 _ k _ _ HR7.out
    go_wp2_with fail
    have hR8 := set3 (b1 := .int .i64 (f : Int)) (b2 := .int .i64 1) (b3 := .int .i64 1) HR7.out
    have hL8 := HLF.out.set3 HR7.out (by decide) (by decide) (by decide) (.int .i64 (f : Int)) (.int .i64 1) (.int .i64 1)
    have hB8 := ((HBF.out.set (a := ⟨w.heap.size, 0, none⟩) (.int .i64 (f : Int)) (Nat.le_refl _)).set (a := ⟨w.heap.size, 1, none⟩) (.int .i64 1) (Nat.le_refl _)).set (a := ⟨w.heap.size, 2, none⟩) (.int .i64 1) (Nat.le_refl _)
    generalize ((W7.setCell ⟨w.heap.size, 0, none⟩ (.int .i64 (f : Int))).setCell ⟨w.heap.size, 1, none⟩ (.int .i64 1)).setCell ⟨w.heap.size, 2, none⟩ (.int .i64 1) = W8 at *
    have v0 : W8.cell? ⟨w.heap.size, 0, none⟩ = some (.int .i64 (f : Int)) := by simp [World.cell?, hR8]
    have v1' : W8.cell? ⟨w.heap.size, 1, none⟩ = some (.int .i64 1) := by simp [World.cell?, hR8]
    have v2 : W8.cell? ⟨w.heap.size, 2, none⟩ = some (.int .i64 1) := by simp [World.cell?, hR8]
    rw [HD0.out, ← HTL2.out]
    rw [← HTL2.out] at hL8
    exact bodyPost_ret (v := .tuple #[.agg #[.int .i64 (f : Int), .int .i64 1, .int .i64 1], .int .i64 0]) (by simp [results, Tryz.results12, go_sem, v0, v1', v2]) rfl ⟨rfl, ⟨_, _, hL8⟩, hB8⟩
  · have hq : ((((j : Int) - (f : Int) + 1 == 1) = false) ∨ (((j : Int) - (f : Int) + 1 == 1) = true ∧ ((T.length : Int) == 1) = false)) := by
      by_cases hd : f = j
      · refine .inr ⟨by subst hd; simp, ?_⟩
        have : T.length ≠ 1 := fun e => hA ⟨hd, e⟩
        rw [beq_eq_false_iff_ne]
        omega
      · refine .inl ?_
        rw [beq_eq_false_iff_ne]
        omega
    clear hA
    rcases hq with q1 | ⟨q1, q2⟩ <;> go_wp2_with fail
    all_goals (
      clear q1
      obtain ⟨W9, hW9⟩ : ∃ W9, (w5.alloc (.cells #[.int .i64 (f : Int), .int .i64 ((j : Int) - (f : Int) + 1), .int .i64 (T.length : Int)] 29)).alloc (.cells #[.int .i64 (f : Int), .int .i64 1, .int .i64 1] 29) = W9 := ⟨_, rfl⟩
      have hb9 : Below w5.heap.size w5 W9 := by rw [← hW9]; exact (below_new _ _).trans ((below_new _ _).mono (by simp))
      have hz9 : W9.heap.size = w5.heap.size + 2 := by rw [← hW9]; simp
      have hC9 : W9.heap[w5.heap.size]? = some (.cells #[.int .i64 (f : Int), .int .i64 ((j : Int) - (f : Int) + 1), .int .i64 (T.length : Int)] 29 (0, 0)) := by {
        rw [← hW9]
        exact ((below_new _ _).block _ (by simp)).trans (heap_alloc_new _ _)}
      rw [hW9]
      clear hW9
      have hl9 : Below w.heap.size w W9.drew := ((HL4.out.trans (HbV.out.mono (by have := HL4.out.size; omega))).trans (hb9.mono (by have := HL4.out.size; have := HbV.out.size; omega))).drew
      have hLX9 := HLX.out.below hl9
      have hR9 := (hb9.block w.heap.size (by omega)).trans ((HbV.out.block w.heap.size (by omega)).trans HRo4.out)
      have HLx := Lib.hid (lex_any X _ q _ T.length T W9.drew (by omega) (fun y hy => by
        obtain ⟨k, hk⟩ := List.mem_iff_getElem?.1 hy
        rw [HTP.out] at hk
        have := piece_small hk
        omega) (by omega) hLX9.at_ ((HHV.out.below hb9.drew)) (HT.out.below hl9))
      have c9 : W9.cell? ⟨X, 0, none⟩ = some (.slice (some ⟨g, 0, none⟩) ls.length c) := (hl9.cell (p := ⟨X, 0, none⟩) lX).trans HC0.out
      have HL9 := Lib.hid hl9
      have HLX9 := Lib.hid hLX9
      have HR9 := Lib.hid hR9
      have HC9 := Lib.hid hC9
      have m1 : (f : Int) ≤ (c : Int) := by omega
      have m2 : IntKind.i64.wrap ((j : Int) + 1) = (j : Int) + 1 := IntWalk.i64_in _ (by omega)
      have m3 : (j : Int) + 1 ≤ (ls.length : Int) := by omega
      have m4 : (ls.length : Int) ≤ (c : Int) := by omega
      have m5 : ((j : Int) + 1).toNat = j + 1 := by omega
      have m6 : (0 : Int) ≤ (j : Int) + 1 := by omega
      obtain ⟨B3, hB3⟩ : ∃ B3 : Option Addr, (if c = j + 1 then some (⟨g, 0, none⟩ : Addr) else some ⟨g, (j + 1) * 2, none⟩) = B3 := ⟨_, rfl⟩
      clear hb9 hl9 hLX9 hR9 hC9
      refine wp_region_ordz (S := fun w' => w'.cell? ⟨X, 0, none⟩ = some (.slice (some ⟨g, 0, none⟩) ls.length c)) [0, 1, 2, 3, 4, 5, 6, 7, 8, 9, 10, 11, 12, 14, 15, 16, 17, 18, 19, 20, 21] [13, 22, 23, 24, 25, 26, 27] 27 (by kernel_rfl) (by kernel_rfl) (fun _ _ _ _ _ h => h) c9 ?_
      simp only [pick, List.filterMap_cons, List.filterMap_nil, List.getElem?_toArray, List.getElem?_cons_zero, List.getElem?_cons_succ]
      repeat (refine wpHead_step (v := ?_) rfl ?_ ?_; rotate_left; (focus (rintro w1 c9; go_simp; try with_reducible rfl)); simp only [Act.put, List.setIfInBounds_toArray, List.set_cons_zero, List.set_cons_succ])
      refine wpHead_nil ?_
      refine wpTailZ_step rfl (fun K hK => ?_)
      go_wp2_with fail
      refine HLx.out.mono ?_
      rintro e w6 ⟨v1, ls1, rfl, hl1, ht1, ho1, hr1, hg1, hx1⟩
      obtain ⟨A1, cc1, rfl, -, hH1, -⟩ := holdsL_of_own ho1
      have hl1' := hl1
      rw [hl1]
      have c6 : w6.cell? ⟨X, 0, none⟩ = some (.slice (some ⟨g, 0, none⟩) ls.length c) := by {simp [World.cell?, hx1]}
      have ho6 := HLX9.out.own.kept (w := W9.drew) hg1 (Or.inr (own_apart_cells HLX9.out.own HLX9.out.at_ (by decide)))
      have hr6 := HLX9.out.right.other hg1 HLX9.out.at_ (by decide)
      obtain ⟨A6, c6', e6, -, hH6, -⟩ := holdsL_of_own ho6
      obtain ⟨rfl, rfl⟩ : A6 = some ⟨g, 0, none⟩ ∧ c = c6' := by {cases e6; exact ⟨rfl, rfl⟩}
      obtain ⟨ps, hps⟩ : ∃ ps : List Part, ps = [(some ⟨g, 0, none⟩, f, ls.take f), (A1, cc1, ls1), (B3, c - (j + 1), ls.drop (j + 1))] := ⟨_, rfl⟩
      have lf : (ls.take f).length = f := by {rw [List.length_take]; omega}
      have ld : (ls.drop (j + 1)).length = ls.length - (j + 1) := List.length_drop
      have hpsl : ps.length = 3 := by {rw [hps]; rfl}
      have hall : allL ps = ls.take f ++ ls1 ++ ls.drop (j + 1) := by {rw [hps]; simp [allL]}
      have halln : (allL ps).length = f + T.length + (ls.length - (j + 1)) := by {rw [hall, List.length_append, List.length_append, lf, ld, hl1]}
      have hb10 := below_new w6 (.cells #[.slice (some ⟨g, 0, none⟩) f f, .slice A1 T.length cc1, .slice B3 (ls.length - (j + 1)) (c - (j + 1))] 59)
      have hrow10 := heap_alloc_new w6 (.cells #[.slice (some ⟨g, 0, none⟩) f f, .slice A1 T.length cc1, .slice B3 (ls.length - (j + 1)) (c - (j + 1))] 59)
      have hz10 : (w6.alloc (.cells #[.slice (some ⟨g, 0, none⟩) f f, .slice A1 T.length cc1, .slice B3 (ls.length - (j + 1)) (c - (j + 1))] 59)).heap.size = w6.heap.size + 1 := by {simp}
      have hHB3 : HoldsL w6 B3 (ls.drop (j + 1)) := by {
        rw [← hB3]
        by_cases hc : c = j + 1
        · rw [if_pos hc, List.drop_eq_nil_of_le (by omega)]
          exact HoldsL.nil _ _
        · rw [if_neg hc]
          have h0 := hH6.slice (j + 1)
          rw [Nat.zero_add] at h0
          exact h0}
      have hHP : HoldsP (w6.alloc (.cells #[.slice (some ⟨g, 0, none⟩) f f, .slice A1 T.length cc1, .slice B3 (ls.length - (j + 1)) (c - (j + 1))] 59)) w6.heap.size ps := by {
        intro k y hy
        rw [hps] at hy
        have hk : k < 3 := by have := (List.getElem?_eq_some_iff.1 hy).1; simpa using this
        have h3 : k = 0 ∨ k = 1 ∨ k = 2 := by omega
        rcases h3 with rfl | rfl | rfl
        · obtain rfl : _ = y := Option.some.inj hy
          exact ⟨by simp only [lf]; exact (cell_of_row _ _ 0 _ _ _ hrow10).trans rfl, (hH6.take f).below hb10⟩
        · obtain rfl : _ = y := Option.some.inj hy
          exact ⟨by simp only [hl1]; exact (cell_of_row _ _ 1 _ _ _ hrow10).trans rfl, hH1.below hb10⟩
        · obtain rfl : _ = y := Option.some.inj hy
          refine ⟨by simp only [ld]; exact (cell_of_row _ _ 2 _ _ _ hrow10).trans rfl, ?_⟩
          exact hHB3.below hb10}
      have c10 := (hb10.cell (p := ⟨X, 0, none⟩) (Array.getElem?_eq_some_iff.1 hx1).1).trans c6
      have HCo := Lib.hid (Concat_any w6.heap.size 3 ps _ (by omega) (by omega) (by omega) hHP)
      rw [hpsl] at HCo
      have HPS := Lib.hid hall
      have HPN := Lib.hid halln
      have HO6 := Lib.hid ho6
      have HR6 := Lib.hid hr6
      have HG1 := Lib.hid hg1
      have HX1 := Lib.hid hx1
      have HRR := Lib.hid hr1
      have HT1 := Lib.hid ht1
      have HB10 := Lib.hid hb10
      have HZ10 := Lib.hid hz10
      clear hps lf ld hpsl hall halln hb10 hrow10 hz10 hHP hH6 hHB3 hH1 ho6 hr6 hg1 hx1 hr1 hl1 hl1' ht1 ho1 e6 hB3
      go_wp2_with fail
      refine hK _ _ c6 ?_
      clear hK K
      try simp only [Act.put, List.setIfInBounds_toArray, List.set_cons_zero, List.set_cons_succ]
      refine wpTailZ_step rfl (fun K hK => ?_)
      go_wp2_with fail
      refine hK _ _ c10 ?_
      clear hK K
      try simp only [Act.put, List.setIfInBounds_toArray, List.set_cons_zero, List.set_cons_succ]
      refine wpTailZ_step rfl (fun K hK => ?_)
      go_wp2_with fail
      refine HCo.out.mono ?_
      rintro e w11 ⟨v9, rfl, ho9, hb11⟩
      obtain ⟨A9, c9', rfl⟩ := owns_slice ho9
      have hs6 := HG1.out.size
      have hs9 : W9.heap.size ≤ w6.heap.size := hs6
      have hwn : w.heap.size + 4 ≤ W9.heap.size := by {have := HL4.out.size; have := HbV.out.size; omega}
      have hw5 : w5.heap.size + 2 ≤ w6.heap.size := by {omega}
      have hz11 := hb11.size
      have hL10 : Below w6.heap.size w6 w11 := HB10.out.trans (hb11.mono (by {have := HZ10.out; omega}))
      have hx11 := (hL10.block X (by {omega})).trans HX1.out
      have c11 : w11.cell? ⟨X, 0, none⟩ = some (.slice (some ⟨g, 0, none⟩) ls.length c) := by {simp [World.cell?, hx11]}
      have z11 : w11.frozen? ⟨X, 0, none⟩ = false := frozen_of_row w11 _ 0 _ _ hx11
      have hwX : w.heap.size ≠ X := by {omega}
      have hCX : w5.heap.size ≠ X := by {have := HL4.out.size; have := HbV.out.size; omega}
      obtain ⟨n9, hn9⟩ : ∃ n9, n9 = (allL ps).length := ⟨_, rfl⟩
      have hz12 : w6.heap.size + 1 ≤ w11.heap.size := by {have := HZ10.out; omega}
      have hn9' : (allL ps).length = n9 := hn9.symm
      rw [← hn9] at ho9
      have hgS := grown_setCell w11 ⟨X, 0, none⟩ (.slice A9 n9 c9')
      have hxS := heap_setCell_same w11 X 0 _ _ (.slice A9 n9 c9') hx11
      have hoS := ho9.kept hgS (Or.inr (own_apart_cells ho9 hx11 (by decide)))
      have hrS : ∀ {l : List Ln}, RightL w6 l → RightL (w11.setCell ⟨X, 0, none⟩ (.slice A9 n9 c9')) l := fun h => (h.below hL10).other hgS hx11 (by decide)
      obtain ⟨W7, hW7⟩ : ∃ W7, w11.setCell ⟨X, 0, none⟩ (.slice A9 n9 c9') = W7 := ⟨_, rfl⟩
      rw [hW7] at hgS hxS hoS
      have hrS' : ∀ {l : List Ln}, RightL w6 l → RightL W7 l := fun h => by {rw [← hW7]; exact hrS h}
      have hrr : RightL W7 (allL ps) := by {
        rw [HPS.out]
        intro y hy
        rcases List.mem_append.1 hy with hy | hy
        · rcases List.mem_append.1 hy with hy | hy
          · exact hrS' HR6.out y (List.mem_of_mem_take hy)
          · exact hrS' HRR.out y hy
        · exact hrS' HR6.out y (List.mem_of_mem_drop hy)}
      have hput : textsOf (allL ps) = piecesB (putS t p n s) := by {
        have hTP := HTP.out
        rw [HSA.out.put, HPS.out, ← hTP, ← HT1.out, ← HJ.out]
        unfold textsOf
        simp}
      have hTL2 := HTL.out
      have HLF : Hid (LexV W7 base X (.slice A9 n9 c9') (allL ps) (putS t p n s) (q + (piecesB s).length)) := by {
        refine Lib.hid ⟨?_, (by {rw [hn9']; exact own_mono hoS (by {simp only [World.size_alloc]; omega})}), hput, hrr⟩
        rw [hxS, ← hTL2]
        rfl}
      have HBF : Hid (ButLex w W7 X (.slice (some ⟨g, 0, none⟩) ls.length c)) := Lib.hid (((ButLex.of_below HL9.out).trans (ButLex.of_grown HG1.out)).trans ((ButLex.of_below hL10).trans (ButLex.of_grown hgS)))
      have hR7 := (hgS.block w.heap.size (by {omega}) (by {simpa using hwX})).trans ((hL10.block w.heap.size (by {omega})).trans ((HG1.out.block w.heap.size (show w.heap.size < W9.heap.size by {omega}) (by {simpa using hwX})).trans HR9.out))
      have hC7 := (hgS.block w5.heap.size (by {omega}) (by {simpa using hCX})).trans ((hL10.block w5.heap.size (by {omega})).trans ((HG1.out.block w5.heap.size (show w5.heap.size < W9.heap.size by {omega}) (by {simpa using hCX})).trans HC9.out))
      have HR7 := Lib.hid hR7
      have HC7 := Lib.hid hC7
      have HW7 := Lib.hid hW7
      have HTL2 := Lib.hid hTL2
      clear hgS hxS hoS hrS hrS' hrr hput hTL2 hR7 hC7 hW7 HPN HO6 HR6 HG1 HX1 HRR HLx HLX9 HR9 HC9 HL9 HCo hb11 ho9 hL10 hx11 hs6 hs9 hw5 HT1 HPS HB10 HZ10
      try rw [← hn9]
      clear hn9 hn9'
      go_wp2_with fail
      refine hK _ _ c11 ?_
      clear hK K
      try simp only [Act.put, List.setIfInBounds_toArray, List.set_cons_zero, List.set_cons_succ]
      refine wpTailZ_step rfl (fun K hK => ?_)
      go_wp2_with fail
      refine hK _ _ c11 ?_
      clear hK K
      try simp only [Act.put, List.setIfInBounds_toArray, List.set_cons_zero, List.set_cons_succ]
      refine wpTailZ_step rfl (fun K hK => ?_)
      go_wp2_with fail
      refine hK _ _ c11 ?_
      clear hK K
      try simp only [Act.put, List.setIfInBounds_toArray, List.set_cons_zero, List.set_cons_succ]
      refine wpTailZ_step rfl (fun K hK => ?_)
      go_wp2_with fail
      refine hK _ _ c11 ?_
      clear hK K
      try simp only [Act.put, List.setIfInBounds_toArray, List.set_cons_zero, List.set_cons_succ]
      refine wpTailZ_last rfl (fun K hK => ?_)
      have HK := Lib.hid hK
      clear hK
      go_wp2_with fail
      refine HK.out _ _ ?_
      clear HK K
      rw [HW7.out]
      have x0 : W7.cell? ⟨w5.heap.size, 0, none⟩ = some (.int .i64 (f : Int)) := by {simp [World.cell?, HC7.out]}
      have x1 : W7.cell? ⟨w5.heap.size, 1, none⟩ = some (.int .i64 ((j : Int) - (f : Int) + 1)) := by {simp [World.cell?, HC7.out]}
      have x2 : W7.cell? ⟨w5.heap.size, 2, none⟩ = some (.int .i64 (T.length : Int)) := by {simp [World.cell?, HC7.out]}
      rw [hsV] at x0 x1 x2
      have y0 : W7.cell? ⟨w.heap.size, 0, none⟩ = some (.int .i64 0) := by {simp [World.cell?, HR7.out]}
      have y1' : W7.cell? ⟨w.heap.size, 1, none⟩ = some (.int .i64 0) := by {simp [World.cell?, HR7.out]}
      have y2 : W7.cell? ⟨w.heap.size, 2, none⟩ = some (.int .i64 0) := by {simp [World.cell?, HR7.out]}
      have z7 : ∀ k, W7.frozen? ⟨w.heap.size, k, none⟩ = false := fun k => frozen_of_row W7 _ k _ _ HR7.out
      go_wp2_with fail
      have hR8 := set3 (b1 := .int .i64 (f : Int)) (b2 := .int .i64 ((j : Int) - (f : Int) + 1)) (b3 := .int .i64 (T.length : Int)) HR7.out
      have hL8 := HLF.out.set3 HR7.out (by decide) (by decide) (by decide) (.int .i64 (f : Int)) (.int .i64 ((j : Int) - (f : Int) + 1)) (.int .i64 (T.length : Int))
      have hB8 := ((HBF.out.set (a := ⟨w.heap.size, 0, none⟩) (.int .i64 (f : Int)) (Nat.le_refl _)).set (a := ⟨w.heap.size, 1, none⟩) (.int .i64 ((j : Int) - (f : Int) + 1)) (Nat.le_refl _)).set (a := ⟨w.heap.size, 2, none⟩) (.int .i64 (T.length : Int)) (Nat.le_refl _)
      generalize ((W7.setCell ⟨w.heap.size, 0, none⟩ (.int .i64 (f : Int))).setCell ⟨w.heap.size, 1, none⟩ (.int .i64 ((j : Int) - (f : Int) + 1))).setCell ⟨w.heap.size, 2, none⟩ (.int .i64 (T.length : Int)) = W8 at *
      have v0 : W8.cell? ⟨w.heap.size, 0, none⟩ = some (.int .i64 (f : Int)) := by {simp [World.cell?, hR8]}
      have v1' : W8.cell? ⟨w.heap.size, 1, none⟩ = some (.int .i64 ((j : Int) - (f : Int) + 1)) := by {simp [World.cell?, hR8]}
      have v2 : W8.cell? ⟨w.heap.size, 2, none⟩ = some (.int .i64 (T.length : Int)) := by {simp [World.cell?, hR8]}
      have eD : (j : Int) - (f : Int) + 1 = ((d + 1 : Nat) : Int) := by {have := HJ.out; omega}
      have eT : (T.length : Int) = ((piecesB s).length : Int) := by {have := HTL.out; omega}
      rw [← eD, ← eT]
      rw [← eT] at hL8
      exact bodyPost_ret (v := .tuple #[.agg #[.int .i64 (f : Int), .int .i64 ((j : Int) - (f : Int) + 1), .int .i64 (T.length : Int)], .int .i64 0]) (by simp [results, Tryz.results12, go_sem, v0, v1', v2]) rfl ⟨rfl, ⟨_, _, hL8⟩, hB8⟩)
end Go.Proofs.YtflpihedhccdfaaGreatDoor
/-
  A splice, whatever it is: by the program.
-/
namespace Go.Proofs.YtflpihedhccdfaaGreatDoor
open Go Go.RowKit

def Chg.val (c : Chg) : Value := .agg #[.int .i64 (c.fro : Int), .int .i64 (c.old : Int), .int .i64 (c.new : Int)]
theorem noChg_val : noChg.val = .agg #[.int .i64 0, .int .i64 0, .int .i64 0] := rfl

theorem Splice_any (base X : Nat) (v : Value) (ls : List Ln) (t : ByteArray) (q p n : Int) (s : ByteArray) (a d : Addr) (w : World)
    (h : LexV w base X v ls t q) (ht : t.size ≤ 4000) (hq : 0 ≤ q ∧ q ≤ 900000000) (hs : s.size ≤ 1000000)
    (hn : -9223372036854775808 ≤ n ∧ n ≤ 9223372036854775807) (hT : Tabs w) (hL : Laid5 a d w) :
    Calls Tryz.prog 12 #[.pointer (some ⟨X, 0, none⟩), .int .i64 p, .int .i64 n, .string s] w fun e w' =>
      e = .returned (.tuple #[(doneS t p n s).val, .int .i64 (errS t p n s)]) ∧ (∃ v' ls', LexV w' base X v' ls' (textS t p n s) (q + (doneS t p n s).new)) ∧ ButLex w w' X v := by
  by_cases hr : p < 0 ∨ p > t.size ∨ n < 0 ∨ n > t.size - p
  · have he : errS t p n s = 10 := by unfold errS; rw [if_pos hr]
    have hd : doneS t p n s = noChg := by unfold doneS; rw [he]; rfl
    have hx : textS t p n s = t := by unfold textS; rw [he]; rfl
    rw [he, hd, hx]
    refine (Splice_range X t q p n s a d w h.is ht hL hn hr).mono fun e w' ⟨h1, h2⟩ => ⟨h1, ⟨v, ls, ?_⟩, ButLex.of_below h2⟩
    have := h.below h2
    simpa [noChg] using this
  · by_cases hf : (t.size : Int) - n + s.size > 4000
    · have he : errS t p n s = 11 := by unfold errS; rw [if_neg hr, if_pos hf]
      have hd : doneS t p n s = noChg := by unfold doneS; rw [he]; rfl
      have hx : textS t p n s = t := by unfold textS; rw [he]; rfl
      rw [he, hd, hx]
      refine (Splice_full X t q p n s a d w h.is ht hL (by omega) (by omega) (by omega) hs hf).mono fun e w' ⟨h1, h2⟩ => ⟨h1, ⟨v, ls, ?_⟩, ButLex.of_below h2⟩
      have := h.below h2
      simpa [noChg] using this
    · have he : errS t p n s = 0 := by unfold errS; rw [if_neg hr, if_neg hf]
      have hd : doneS t p n s = chgS t p.toNat n.toNat s := by unfold doneS; rw [if_pos he]
      have hx : textS t p n s = putS t p.toNat n.toNat s := by unfold textS; rw [if_pos he]
      rw [he, hd, hx]
      obtain ⟨P, rfl⟩ : ∃ P : Nat, p = (P : Int) := ⟨p.toNat, by omega⟩
      obtain ⟨M, rfl⟩ : ∃ M : Nat, n = (M : Int) := ⟨n.toNat, by omega⟩
      simp only [Int.toNat_natCast]
      exact Splice_right base X v ls t q P M s w h ht hq (by omega) hs (by omega) hT

theorem new_le (t : ByteArray) (p n : Int) (s : ByteArray) : (doneS t p n s).new ≤ s.size + 1 := by
  unfold doneS
  split
  · exact pieces_le s
  · exact Nat.zero_le _

/-- A splice of a lexer that lies above K: what is below K stays. -/
theorem Splice_low (K base X : Nat) (t : ByteArray) (q p n : Int) (s : ByteArray) (a d : Addr) (w0 w : World)
    (h : IsLexB w base X t q) (ht : t.size ≤ 4000) (hq : 0 ≤ q ∧ q ≤ 900000000) (hs : s.size ≤ 1000000)
    (hn : -9223372036854775808 ≤ n ∧ n ≤ 9223372036854775807) (hT : Tabs w) (hL : Laid5 a d w) (hB : Below K w0 w) (hK : K ≤ base) (hX : K ≤ X) (hw : K ≤ w.heap.size) :
    Calls Tryz.prog 12 #[.pointer (some ⟨X, 0, none⟩), .int .i64 p, .int .i64 n, .string s] w fun e w' =>
      e = .returned (.tuple #[(doneS t p n s).val, .int .i64 (errS t p n s)]) ∧ IsLexB w' base X (textS t p n s) (q + (doneS t p n s).new) ∧ Below K w0 w' ∧ w.heap.size ≤ w'.heap.size ∧ OthersL w w' := by
  obtain ⟨v, ls, h⟩ := h
  exact (Splice_any base X v ls t q p n s a d w h ht hq hs hn hT hL).mono fun e w' ⟨h1, h2, h3⟩ => ⟨h1, h2, h3.below hB hw hX (fun k hk => Nat.le_trans hK (h.own.lt k hk).1), h3.size, h.others h3⟩
end Go.Proofs.YtflpihedhccdfaaGreatDoor
