/-
  The law RelexSplices: true.
-/
import Derived.Test.YtflpihedhccdfaaGreatDoorProg
import Derived.Test.YtflpihedhccdfaaGreatDoorReg
import Derived.WalkKit
import Derived.WalkSpells
import Derived.WalkLawsBesides
import Derived.Lib.Hide
import Derived.Lib.MinMax
import Derived.Deep.QuietTactic
import Derived.BigQuiet
import Derived.OwnWalk
import Derived.Deep.AppendLies
import Derived.KernelRfl
import Derived.Test.YtflpihedhccdfaaGreatDoorRegA
import Derived.Test.YtflpihedhccdfaaGreatDoorRv3
set_option linter.unusedSimpArgs false
set_option linter.unusedVariables false
namespace Go.Proofs.YtflpihedhccdfaaGreatDoor
open Go Go.RowKit

set_option maxRecDepth 100000 in
set_option maxHeartbeats 8000000 in
theorem relexSplices_any (s : ByteArray) (l : List Act5) (A : Option Addr) (c : Nat) (ix : Int) (a d : Addr) (w : World) (hs : s.size ≤ maxLen) (hl : l.length ≤ maxLen)
    (hsz : ∀ (k : Nat) (x : Act5), l[k]? = some x → x.s.size ≤ maxLen ∧ (-9223372036854775808 ≤ x.n ∧ x.n ≤ 9223372036854775807)) (hh : HoldsC w A l) (hix : -9223372036854775808 ≤ ix ∧ ix ≤ 9223372036854775807) (hT : Tabs w) (hL : Laid5 a d w) :
    Calls Tryz.prog 5 #[.string s, .slice A l.length c, .int .i64 ix] w fun e w' => e = .returned (.bool true) ∧ Below w.heap.size w w' := by
  have HS := Lib.hid (shown_any a d w hT hL)
  have HC := Lib.hid (fun u => Cut_any s u hs)
  have hcs := cut4010_size s
  generalize cut4010 s = s0 at *
  by_cases hbig : 4000 < s0.size
  · have HN := Lib.hid (fun W (hb : Below w.heap.size w W) => New_full s0 a d W hbig (by unfold maxLen; omega) (hL.below hb))
    clear hT hL hs hsz hh hl
    go_enter Tryz.func5, Tryz.ntmps5
    go_wp2_with fail
    refine HS.out.mono ?_
    rintro e w1 ⟨rfl, hb1⟩
    have HNw := Lib.hid (HN.out _ hb1)
    go_wp2_with fail
    refine (HC.out _).mono ?_
    rintro e w2 ⟨rfl, rfl⟩
    go_wp2_with fail
    refine HNw.out.mono ?_
    rintro e w3 ⟨rfl, rfl⟩
    go_wp2_with fail
    go_ret
    exact ⟨rfl, hb1⟩
  · have hle : s0.size ≤ 4000 := by omega
    have HN := Lib.hid (fun W (hb : Below w.heap.size w W) => New_state s0 W hle (hT.below hb) w.heap.size hb.size)
    have HT := Lib.hid (fun W (hb : Below w.heap.size w W) => hT.below hb)
    have HL := Lib.hid (fun W (hb : Below w.heap.size w W) => hL.below hb)
    have HF := Lib.hid (fun W (hb : Below w.heap.size w W) => Few_any 20 A c l W (by omega) hl (fun k x hx => (hsz k x hx).1) (hh.below hb))
    obtain ⟨hLl, hLg⟩ := few_good hsz 20
    have HG := Lib.hid hLg
    clear hT hL hs hsz hh hl hLg hbig
    generalize fewTo5 l 20 = L at *
    go_enter Tryz.func5, Tryz.ntmps5
    go_wp2_with fail
    refine HS.out.mono ?_
    rintro e w1 ⟨rfl, hb1⟩
    have HNw := Lib.hid (HN.out _ hb1)
    have B1 := Lib.hid hb1
    have hz1 := hb1.size
    clear hb1 HS HN
    go_wp2_with fail
    refine (HC.out _).mono ?_
    rintro e w2 ⟨rfl, rfl⟩
    clear HC
    go_wp2_with fail
    refine HNw.out.mono ?_
    rintro e w3 ⟨rfl, hx3, hb3⟩
    have hB3 := B1.out.trans (hb3.mono hz1)
    have HFw := Lib.hid (HF.out w3 hB3)
    have HX3' := Lib.hid hx3
    have B3' := Lib.hid hB3
    clear hx3 hb3 hB3 HNw HFw
    have hpl0 := pieces_le s0
    generalize hNP : (piecesB s0).length = NP at *
    have S9 := starts_any s0 w3 (by omega)
    rw [hNP] at S9
    have S9 := Lib.hid S9
    clear hNP
    go_wp2_with fail
    refine S9.out.mono ?_
    rintro e w3 ⟨A9, c9, rfl, -, -, hb3⟩
    have hB3 := B3'.out.trans (hb3.mono B3'.out.size)
    have HFw := Lib.hid (HF.out w3 hB3)
    have HX3 := Lib.hid (HX3'.out.below hb3)
    have B3 := Lib.hid hB3
    clear hb3 hB3 HF S9 HX3' B3'
    go_wp2_with fail
    refine HFw.out.mono ?_
    rintro e w4 ⟨v4, rfl, ho4, hb4⟩
    have HX4 := Lib.hid (HX3.out.below hb4)
    have B4 := Lib.hid (B3.out.trans (hb4.mono B3.out.size))
    have hX : w.heap.size ≤ w2.heap.size := hz1
    generalize w2.heap.size = X at *
    obtain ⟨D, dc, rfl⟩ := owns_slice ho4
    have HO4 := Lib.hid ho4
    clear ho4 hb4 HFw HX3 B3
    go_wp2_with fail
    obtain ⟨base3, hbase3⟩ : ∃ b, b = w3.heap.size := ⟨_, rfl⟩
    rw [← hbase3] at HO4
    clear hbase3
    go_loopw [0, 10, 11] (fun sv lv i wr => ∃ (k : Nat) (t : ByteArray) (q : Int), k ≤ L.length ∧ sv = .string t ∧ lv = .int .i64 q ∧ i = .int .i64 (k : Int) ∧ Hid (StateL wr w.heap.size X X k t q) ∧ Hid (Below w.heap.size w wr) ∧ Hid (wr.ownsRow base3 41 3 (.slice D L.length dc) L.length (actCells L))) (fun _ _ i _ => L.length - (intOf i).toNat)
    case atStart => exact ⟨0, _, _, by omega, rfl, rfl, rfl, HX4, B4, HO4⟩
    case round =>
      obtain ⟨k, t, q, hk, rfl, rfl, rfl, HX, HB, HO⟩ := hrel
      by_cases hlt : k < L.length
      · have hx := List.getElem?_eq_getElem hlt
        obtain ⟨hxs, hxn⟩ := HG.out k L[k] hx
        generalize L[k] = x at *
        have HK := Lib.hid hx
        have hsize := HX.out.size
        have hq := HX.out.num
        have HSt : Hid (∀ W0 W, StateL W w.heap.size X X k t q → Below w.heap.size w W → Calls Tryz.prog 12 #[.pointer (some ⟨X, 0, none⟩), .int .i64 x.pos, .int .i64 x.n, .string x.s] W fun e w' =>
            e = .returned (.tuple #[.agg #[.int .i64 ((doneS t x.pos x.n x.s).fro : Int), .int .i64 ((doneS t x.pos x.n x.s).old : Int), .int .i64 ((doneS t x.pos x.n x.s).new : Int)], .int .i64 (errS t x.pos x.n x.s)]) ∧
            StateL w' w.heap.size X X (k + 1) (textS t x.pos x.n x.s) (q + (doneS t x.pos x.n x.s).new) ∧ Below w.heap.size w w' ∧ W.heap.size ≤ w'.heap.size ∧ OthersL W w' ∧ W0 = W0) := Lib.hid (fun (W0 : World) W hst hb =>
          (Splice_state w.heap.size X X k t q x.pos x.n x.s a d w W hst (by omega) hxs hxn (HT.out _ hb) (HL.out _ hb) hb hX hX hb.size).mono fun e w' ⟨a1, a2, a3, a4, a5⟩ => ⟨a1, a2, a3, a4, a5, rfl⟩)
        have HS5 := Lib.hid (fun W => Rf.splice_any t x.pos x.n x.s W hsize (by omega) hxn)
        have hnw := new_le t x.pos x.n x.s
        have htt := textS_size (s := x.s) (p := x.pos) (n := x.n) hsize
        clear hx
        generalize errS t x.pos x.n x.s = er at *
        generalize (doneS t x.pos x.n x.s).fro = fr at *
        generalize (doneS t x.pos x.n x.s).old = ol at *
        generalize (doneS t x.pos x.n x.s).new = nw at *
        generalize textS t x.pos x.n x.s = tt at *
        obtain ⟨D2, dc2, eD, -, hH, -⟩ := holdsC_of_own HO.out
        obtain ⟨rfl, rfl⟩ : D = D2 ∧ dc = dc2 := by cases eD; exact ⟨rfl, rfl⟩
        obtain ⟨b, off, rfl, c1, c2, c3⟩ := hH k x HK.out
        clear hH eD
        have lb := cell_lt c1
        simp only at lb
        obtain ⟨w6, rfl⟩ : ∃ w6, w6 = wr := ⟨wr, rfl⟩
        go_wp2_with fail
        refine wp_region_alloc (S := fun w' => w'.cell? ⟨b, off + k * 3, none⟩ = some (.int .i64 x.pos) ∧ w'.cell? ⟨b, off + k * 3 + 1, none⟩ = some (.int .i64 x.n) ∧ w'.cell? ⟨b, off + k * 3 + 2, none⟩ = some (.string x.s)) [0, 1, 2, 3, 4, 5, 6, 7, 8, 9, 10, 11, 12, 13, 14, 15] 16 21 [17, 18, 19, 20] [22, 23, 24] (by kernel_rfl) (by kernel_rfl) (fun _ _ _ _ _ h => h) ⟨c1, c2, c3⟩ ?_
        simp only [pick, List.filterMap_cons, List.filterMap_nil, List.getElem?_toArray, List.getElem?_cons_zero, List.getElem?_cons_succ]
        repeat (refine wpHead_step (v := ?_) rfl ?_ ?_; rotate_left; (focus (rintro w1 ⟨d1, d2, d3⟩; go_simp; try with_reducible rfl)); simp only [Act.put, List.setIfInBounds_toArray, List.set_cons_zero, List.set_cons_succ])
        refine wpHead_nil ⟨?_, ?_⟩
        · refine wpTailK_step rfl (fun K hK => ?_)
          go_wp2_with fail
          refine (HS5.out _).mono ?_
          rintro e w7 ⟨rfl, hb7'⟩
          have hb7 := ((HB.out.drew).trans (hb7'.mono HB.out.size))
          have hz7 := hb7'.size
          have ho7 := own_below (show (World.drew w6).ownsRow _ _ _ _ _ _ from HO.out.drew) hb7'
          have hx7 := (HX.out.below (Below.refl _ w6).drew).below hb7'
          have hbA := below_new w7 (.cells #[.int .i64 0, .int .i64 0, .int .i64 0] 29)
          have hr8 := heap_alloc_new w7 (.cells #[.int .i64 0, .int .i64 0, .int .i64 0] 29)
          have hbV := below_new w7 (.cells #[.int .i64 (fr : Int), .int .i64 (ol : Int), .int .i64 (nw : Int)] 29)
          have hr9 := heap_alloc_new w7 (.cells #[.int .i64 (fr : Int), .int .i64 (ol : Int), .int .i64 (nw : Int)] 29)
          have hx8 := hx7.below hbV
          have hb8 := hb7.trans (hbV.mono hb7.size)
          have ho8 := own_below ho7 hbV
          obtain ⟨D5, dc5, eD, -, hH5, -⟩ := holdsC_of_own ho7
          obtain ⟨b5, off5, e5, d1, d2, d3⟩ := hH5 k x HK.out
          cases eD
          cases e5
          have f1 := (hbA.cell (p := ⟨b, off + k * 3, none⟩) (cell_lt d1)).trans d1
          have f2 := (hbA.cell (p := ⟨b, off + k * 3 + 1, none⟩) (cell_lt d2)).trans d2
          have f3 := (hbA.cell (p := ⟨b, off + k * 3 + 2, none⟩) (cell_lt d3)).trans d3
          have e1 := (hbV.cell (p := ⟨b, off + k * 3, none⟩) (cell_lt d1)).trans d1
          have e2 := (hbV.cell (p := ⟨b, off + k * 3 + 1, none⟩) (cell_lt d2)).trans d2
          have e3 := (hbV.cell (p := ⟨b, off + k * 3 + 2, none⟩) (cell_lt d3)).trans d3
          have HX8 := Lib.hid hx8
          have HB8 := Lib.hid hb8
          have HO8 := Lib.hid ho8
          have HR8 := Lib.hid hr9
          have y0 := (cell_of_row _ _ 0 _ _ _ hr8).trans (rfl : _ = some (Value.int .i64 0))
          have y1 := (cell_of_row _ _ 1 _ _ _ hr8).trans (rfl : _ = some (Value.int .i64 0))
          have y2 := (cell_of_row _ _ 2 _ _ _ hr8).trans (rfl : _ = some (Value.int .i64 0))
          have z0 : ∀ j, (w7.alloc (.cells #[.int .i64 0, .int .i64 0, .int .i64 0] 29)).frozen? ⟨w7.heap.size, j, none⟩ = false := fun j => frozen_of_row _ _ j _ _ hr8
          clear hx7 hb7 ho7 hbA hbV hx8 hb8 ho8 hr9 hr8 hH5 hb7' 
          go_wp2_with fail
          refine hK _ _ ⟨d1, d2, d3⟩ ?_
          clear hK K
          try simp only [Act.put, List.setIfInBounds_toArray, List.set_cons_zero, List.set_cons_succ]
          refine wpTailK_nil ?_
          repeat (refine wpHead_step (v := ?_) rfl ?_ ?_; rotate_left; (focus (rintro w1 ⟨d1, d2, d3⟩; go_simp; try with_reducible rfl)); simp only [Act.put, List.setIfInBounds_toArray, List.set_cons_zero, List.set_cons_succ])
          refine wpHead_nil ?_
          refine wpTail_step rfl (fun K hK => ?_)
          go_wp2_with fail
          refine hK _ _ ⟨f1, f2, f3⟩ ?_
          clear hK K
          try simp only [Act.put, List.setIfInBounds_toArray, List.set_cons_zero, List.set_cons_succ]
          refine wpTail_step rfl (fun K hK => ?_)
          go_wp2_with fail
          refine hK _ _ ⟨f1, f2, f3⟩ ?_
          clear hK K
          try simp only [Act.put, List.setIfInBounds_toArray, List.set_cons_zero, List.set_cons_succ]
          refine wpTail_step rfl (fun K hK => ?_)
          go_wp2_with fail
          refine hK _ _ ⟨e1, e2, e3⟩ ?_
          clear hK K
          try simp only [Act.put, List.setIfInBounds_toArray, List.set_cons_zero, List.set_cons_succ]
          refine wpTail_step rfl (fun K hK => ?_)
          go_wp2_with fail
          refine hK _ _ ⟨e1, e2, e3⟩ ?_
          clear hK K
          try simp only [Act.put, List.setIfInBounds_toArray, List.set_cons_zero, List.set_cons_succ]
          refine wpTail_nil ?_
          clear f1 f2 f3 e1 e2 e3 d1 d2 d3 y0 y1 y2 z0
          obtain ⟨W8, hW8⟩ : ∃ W8, W8 = w7.alloc (.cells #[.int .i64 (fr : Int), .int .i64 (ol : Int), .int .i64 (nw : Int)] 29) := ⟨_, rfl⟩
          rw [← hW8] at HX8 HB8 HO8 HR8  ⊢
          obtain ⟨C, hC⟩ : ∃ C, C = w7.heap.size := ⟨_, rfl⟩
          rw [← hC] at HR8 ⊢
          clear hW8 hC
          obtain ⟨C1, rfl⟩ : ∃ C1, C1 = C := ⟨C, rfl⟩
          obtain ⟨W1, rfl⟩ : ∃ W1, W1 = W8 := ⟨W8, rfl⟩
          have HX1 := HX8
          have HB1 := HB8
          have HO1 := HO8
          have HR1 := HR8
          clear HX8 HB8 HO8 HR8 HX HB HO c1 c2 c3 lb
          have HO1c := HO1.out
          obtain ⟨D5, dc5, eD, -, hH5, -⟩ := holdsC_of_own HO1c
          obtain ⟨b5, off5, e5, c1, c2, c3⟩ := hH5 k x HK.out
          cases eD
          cases e5
          have lb := cell_lt c1
          simp only at lb
          clear hH5 HO1c
          go_wp2_with fail
          refine wp_region_alloc (S := fun w' => w'.cell? ⟨b, off + k * 3, none⟩ = some (.int .i64 x.pos) ∧ w'.cell? ⟨b, off + k * 3 + 1, none⟩ = some (.int .i64 x.n) ∧ w'.cell? ⟨b, off + k * 3 + 2, none⟩ = some (.string x.s)) [0, 1, 2, 3, 4, 5, 6, 7, 8, 9, 10, 11, 12, 13, 14, 15] 16 20 [17, 18, 19] [21, 22] (by kernel_rfl) (by kernel_rfl) (fun _ _ _ _ _ h => h) ⟨c1, c2, c3⟩ ?_
          simp only [pick, List.filterMap_cons, List.filterMap_nil, List.getElem?_toArray, List.getElem?_cons_zero, List.getElem?_cons_succ]
          repeat (refine wpHead_step (v := ?_) rfl ?_ ?_; rotate_left; (focus (rintro w1 ⟨d1, d2, d3⟩; go_simp; try with_reducible rfl)); simp only [Act.put, List.setIfInBounds_toArray, List.set_cons_zero, List.set_cons_succ])
          refine wpHead_nil ⟨?_, ?_⟩
          · refine wpTailK_step rfl (fun K hK => ?_)
            go_wp2_with fail
            refine (HSt.out W1 _ (HX1.out.below (Below.refl _ W1).drew) HB1.out.drew).mono ?_
            rintro e w7 ⟨rfl, hx7, hb7, hz7, hoth7, -⟩
            have ho7 := hoth7.own (show (World.drew W1).ownsRow _ _ _ _ _ _ from HO1.out.drew) (by decide) (by decide)
            have hr7_C1 := hoth7 _ _ _ _ (show (World.drew W1).heap[C1]? = _ from HR1.out) (by decide) (by decide)
            have hbA := below_new w7 (.cells #[.int .i64 0, .int .i64 0, .int .i64 0] 29)
            have hr8 := heap_alloc_new w7 (.cells #[.int .i64 0, .int .i64 0, .int .i64 0] 29)
            have hbV := below_new w7 (.cells #[.int .i64 (fr : Int), .int .i64 (ol : Int), .int .i64 (nw : Int)] 29)
            have hr9 := heap_alloc_new w7 (.cells #[.int .i64 (fr : Int), .int .i64 (ol : Int), .int .i64 (nw : Int)] 29)
            have hx8 := hx7.below hbV
            have hb8 := hb7.trans (hbV.mono hb7.size)
            have ho8 := own_below ho7 hbV
            have HR8_C1 := Lib.hid ((hbV.block _ (Array.getElem?_eq_some_iff.1 hr7_C1).1).trans hr7_C1)
            obtain ⟨D5, dc5, eD, -, hH5, -⟩ := holdsC_of_own ho7
            obtain ⟨b5, off5, e5, d1, d2, d3⟩ := hH5 k x HK.out
            cases eD
            cases e5
            have f1 := (hbA.cell (p := ⟨b, off + k * 3, none⟩) (cell_lt d1)).trans d1
            have f2 := (hbA.cell (p := ⟨b, off + k * 3 + 1, none⟩) (cell_lt d2)).trans d2
            have f3 := (hbA.cell (p := ⟨b, off + k * 3 + 2, none⟩) (cell_lt d3)).trans d3
            have e1 := (hbV.cell (p := ⟨b, off + k * 3, none⟩) (cell_lt d1)).trans d1
            have e2 := (hbV.cell (p := ⟨b, off + k * 3 + 1, none⟩) (cell_lt d2)).trans d2
            have e3 := (hbV.cell (p := ⟨b, off + k * 3 + 2, none⟩) (cell_lt d3)).trans d3
            have HX8 := Lib.hid hx8
            have HB8 := Lib.hid hb8
            have HO8 := Lib.hid ho8
            have HR8 := Lib.hid hr9
            have y0 := (cell_of_row _ _ 0 _ _ _ hr8).trans (rfl : _ = some (Value.int .i64 0))
            have y1 := (cell_of_row _ _ 1 _ _ _ hr8).trans (rfl : _ = some (Value.int .i64 0))
            have y2 := (cell_of_row _ _ 2 _ _ _ hr8).trans (rfl : _ = some (Value.int .i64 0))
            have z0 : ∀ j, (w7.alloc (.cells #[.int .i64 0, .int .i64 0, .int .i64 0] 29)).frozen? ⟨w7.heap.size, j, none⟩ = false := fun j => frozen_of_row _ _ j _ _ hr8
            clear hx7 hb7 ho7 hbA hbV hx8 hb8 ho8 hr9 hr8 hH5 hoth7 hr7_C1
            go_wp2_with fail
            refine hK _ _ ⟨d1, d2, d3⟩ ?_
            clear hK K
            try simp only [Act.put, List.setIfInBounds_toArray, List.set_cons_zero, List.set_cons_succ]
            refine wpTailK_nil ?_
            repeat (refine wpHead_step (v := ?_) rfl ?_ ?_; rotate_left; (focus (rintro w1 ⟨d1, d2, d3⟩; go_simp; try with_reducible rfl)); simp only [Act.put, List.setIfInBounds_toArray, List.set_cons_zero, List.set_cons_succ])
            refine wpHead_nil ?_
            refine wpTail_step rfl (fun K hK => ?_)
            go_wp2_with fail
            refine hK _ _ ⟨f1, f2, f3⟩ ?_
            clear hK K
            try simp only [Act.put, List.setIfInBounds_toArray, List.set_cons_zero, List.set_cons_succ]
            refine wpTail_step rfl (fun K hK => ?_)
            go_wp2_with fail
            refine hK _ _ ⟨e1, e2, e3⟩ ?_
            clear hK K
            try simp only [Act.put, List.setIfInBounds_toArray, List.set_cons_zero, List.set_cons_succ]
            refine wpTail_step rfl (fun K hK => ?_)
            go_wp2_with fail
            refine hK _ _ ⟨e1, e2, e3⟩ ?_
            clear hK K
            try simp only [Act.put, List.setIfInBounds_toArray, List.set_cons_zero, List.set_cons_succ]
            refine wpTail_nil ?_
            clear f1 f2 f3 e1 e2 e3 d1 d2 d3 y0 y1 y2 z0
            obtain ⟨W8, hW8⟩ : ∃ W8, W8 = w7.alloc (.cells #[.int .i64 (fr : Int), .int .i64 (ol : Int), .int .i64 (nw : Int)] 29) := ⟨_, rfl⟩
            rw [← hW8] at HX8 HB8 HO8 HR8 HR8_C1 ⊢
            obtain ⟨C, hC⟩ : ∃ C, C = w7.heap.size := ⟨_, rfl⟩
            rw [← hC] at HR8 ⊢
            clear hW8 hC
            have hq8 := HX8.out.num
            have hs8 := HX8.out.size
            have S1 := Lib.hid (Text_lex X _ _ W8 HX8.out.lex.is hs8)
            have u0 := (cell_of_row _ _ 0 _ _ _ HR8.out).trans (rfl : _ = some (Value.int .i64 (fr : Int)))
            have u1 := (cell_of_row _ _ 1 _ _ _ HR8.out).trans (rfl : _ = some (Value.int .i64 (ol : Int)))
            have u2 := (cell_of_row _ _ 2 _ _ _ HR8.out).trans (rfl : _ = some (Value.int .i64 (nw : Int)))
            have v0 := (cell_of_row _ _ 0 _ _ _ HR8_C1.out).trans (rfl : _ = some (Value.int .i64 (fr : Int)))
            have v1 := (cell_of_row _ _ 1 _ _ _ HR8_C1.out).trans (rfl : _ = some (Value.int .i64 (ol : Int)))
            have v2 := (cell_of_row _ _ 2 _ _ _ HR8_C1.out).trans (rfl : _ = some (Value.int .i64 (nw : Int)))
            have w3' : IntKind.i64.wrap (q + (nw : Int)) = q + (nw : Int) := IntWalk.i64_in _ (by omega)
            have SD := Lib.hid (fun W (h : IsLexB W X X tt (q + (nw : Int))) => Lexed_any X _ _ W h.is (by omega))
            have SN := Lib.hid (fun W (h : IsLexB W X X tt (q + (nw : Int))) => Lines_any X _ _ W h.is hs8)
            have SR := Lib.hid (fun W => starts_any tt W (by omega))
            have ttq := bytes_beq_yes (rfl : tt = tt)
            go_wp2_with fail
            refine S1.out.mono ?_
            rintro e w10 ⟨rfl, hb10⟩
            have HX10 := Lib.hid (HX8.out.below hb10)
            have HB10 := Lib.hid (HB8.out.trans (hb10.mono HB8.out.size))
            have HO10 := Lib.hid (own_below HO8.out hb10)
            clear hb10 S1 HR8 HR8_C1 HSt HS5
            go_wp2_with fail
            refine (SD.out _ HX10.out.lex).mono ?_
            rintro e w11 ⟨rfl, rfl⟩
            go_wp2_with fail
            refine (SN.out _ HX10.out.lex).mono ?_
            rintro e w12 ⟨rfl, rfl⟩
            go_wp2_with fail
            refine (SR.out _).mono ?_
            rintro e w13 ⟨A13, c13, rfl, -, -, hb13⟩
            have HX13 := Lib.hid (HX10.out.below hb13)
            have HB13 := Lib.hid (HB10.out.trans (hb13.mono HB10.out.size))
            have HO13 := Lib.hid (own_below HO10.out hb13)
            clear hb13 SD SN SR HX8 HB8 HO8 HX10 HB10 HO10 u0 u1 u2 v0 v1 v2
            generalize (piecesB tt).length = PT at *
            go_wp2_with fail
            go_roundw
            case rel => exact ⟨k + 1, _, _, by omega, rfl, rfl, by go_num, HX13, HB13, HO13⟩
            case measure => simp [intOf]; omega
          · refine wpTailK_step rfl (fun K hK => ?_)
            go_wp2_with fail
            refine hK _ _ ⟨(World.cell?_alloc_lt _ _ _ lb).trans c1, (World.cell?_alloc_lt _ _ _ lb).trans c2, (World.cell?_alloc_lt _ _ _ lb).trans c3⟩ ?_
            clear hK K
            try simp only [Act.put, List.setIfInBounds_toArray, List.set_cons_zero, List.set_cons_succ]
            refine wpTailK_step rfl (fun K hK => ?_)
            go_wp2_with fail
            have hbA := (below_new W1 (.cells #[.int .i64 0, .int .i64 0, .int .i64 0] 29)).drew
            have hbAw := HB1.out.trans (hbA.mono HB1.out.size)
            have hxA := HX1.out.below hbA
            have hoA := own_below HO1.out hbA
            have hrA := heap_alloc_new W1 (.cells #[.int .i64 0, .int .i64 0, .int .i64 0] 29)
            have hzA : (W1.alloc (.cells #[.int .i64 0, .int .i64 0, .int .i64 0] 29)).drew.heap.size = W1.heap.size + 1 := by simp
            refine (HSt.out W1 _ hxA hbAw).mono ?_
            rintro e w7 ⟨rfl, hx7, hb7, hz7, hoth7, -⟩
            have ho7 := hoth7.own hoA (by decide) (by decide)
            have hr8 := hoth7 _ _ _ _ (show (W1.alloc (.cells #[.int .i64 0, .int .i64 0, .int .i64 0] 29)).drew.heap[W1.heap.size]? = _ from hrA) (by decide) (by decide)
            have hl7_C1 : C1 < W1.heap.size := (Array.getElem?_eq_some_iff.1 HR1.out).1
            have hr7_C1 := hoth7 _ _ _ _ ((hbA.block C1 hl7_C1).trans HR1.out) (by decide) (by decide)
            have hx8 := hx7.set3 hr8 (.int .i64 (fr : Int)) (.int .i64 (ol : Int)) (.int .i64 (nw : Int))
            have hb8 := below_set3 hb7 (r := W1.heap.size) HB1.out.size (.int .i64 (fr : Int)) (.int .i64 (ol : Int)) (.int .i64 (nw : Int))
            have ho8 := own_set3 ho7 hr8 (by decide) (.int .i64 (fr : Int)) (.int .i64 (ol : Int)) (.int .i64 (nw : Int))
            have hr9 := set3 (b1 := .int .i64 (fr : Int)) (b2 := .int .i64 (ol : Int)) (b3 := .int .i64 (nw : Int)) hr8
            have HR8_C1 := Lib.hid ((show (((w7.setCell ⟨W1.heap.size, 0, none⟩ (.int .i64 (fr : Int))).setCell ⟨W1.heap.size, 1, none⟩ (.int .i64 (ol : Int))).setCell ⟨W1.heap.size, 2, none⟩ (.int .i64 (nw : Int))).heap[C1]? = _ from by rw [heap_setCell_other _ _ _ _ (by simp only; omega), heap_setCell_other _ _ _ _ (by simp only; omega), heap_setCell_other _ _ _ _ (by simp only; omega)]).trans hr7_C1)
            obtain ⟨D5, dc5, eD, -, hH5, -⟩ := holdsC_of_own ho7
            obtain ⟨b5, off5, e5, f1, f2, f3⟩ := hH5 k x HK.out
            cases eD
            cases e5
            have HX8 := Lib.hid hx8
            have HB8 := Lib.hid hb8
            have HO8 := Lib.hid ho8
            have HR8 := Lib.hid hr9
            have y0 := (cell_of_row _ _ 0 _ _ _ hr8).trans (rfl : _ = some (Value.int .i64 0))
            have y1 := (cell_of_row _ _ 1 _ _ _ hr8).trans (rfl : _ = some (Value.int .i64 0))
            have y2 := (cell_of_row _ _ 2 _ _ _ hr8).trans (rfl : _ = some (Value.int .i64 0))
            have z0 : ∀ j, w7.frozen? ⟨W1.heap.size, j, none⟩ = false := fun j => frozen_of_row _ _ j _ _ hr8
            have hO8a := ho7
            have hbC : b ≠ W1.heap.size := fun e => by
              have h1 := own_apart_cells hO8a (show (w7).heap[W1.heap.size]? = _ from hr8) (by decide)
              exact h1 (by rw [← e]; rfl)
            have gA : ∀ o v, (w7).cell? ⟨b, o, none⟩ = some v → ((((w7).setCell ⟨W1.heap.size, 0, none⟩ (.int .i64 (fr : Int))).setCell ⟨W1.heap.size, 1, none⟩ (.int .i64 (ol : Int))).setCell ⟨W1.heap.size, 2, none⟩ (.int .i64 (nw : Int))).cell? ⟨b, o, none⟩ = some v := fun o v h => by
              simp only [World.cell?] at h ⊢
              rw [heap_setCell_other _ _ _ _ hbC, heap_setCell_other _ _ _ _ hbC, heap_setCell_other _ _ _ _ hbC]
              exact h
            clear hx7 hb7 hoth7 ho7 hbA hbAw hxA hoA hrA hzA hx8 hb8 ho8 hr9 hr8 hH5 hr7_C1 hl7_C1
            go_wp2_with fail
            refine hK _ _ ⟨f1, f2, f3⟩ ?_
            clear hK K
            try simp only [Act.put, List.setIfInBounds_toArray, List.set_cons_zero, List.set_cons_succ]
            refine wpTailK_nil ?_
            repeat (refine wpHead_step (v := ?_) rfl ?_ ?_; rotate_left; (focus (rintro w1 ⟨f1, f2, f3⟩; go_simp; try with_reducible rfl)); simp only [Act.put, List.setIfInBounds_toArray, List.set_cons_zero, List.set_cons_succ])
            refine wpHead_nil ?_
            refine wpTail_step rfl (fun K hK => ?_)
            go_wp2_with fail
            refine hK _ _ ⟨gA _ _ f1, gA _ _ f2, gA _ _ f3⟩ ?_
            clear hK K
            try simp only [Act.put, List.setIfInBounds_toArray, List.set_cons_zero, List.set_cons_succ]
            refine wpTail_step rfl (fun K hK => ?_)
            go_wp2_with fail
            refine hK _ _ ⟨gA _ _ f1, gA _ _ f2, gA _ _ f3⟩ ?_
            clear hK K
            try simp only [Act.put, List.setIfInBounds_toArray, List.set_cons_zero, List.set_cons_succ]
            refine wpTail_nil ?_
            clear f1 f2 f3 gA y0 y1 y2 z0 hbC hO8a
            obtain ⟨W8, hW8⟩ : ∃ W8, W8 = (((w7.setCell ⟨W1.heap.size, 0, none⟩ (.int .i64 (fr : Int))).setCell ⟨W1.heap.size, 1, none⟩ (.int .i64 (ol : Int))).setCell ⟨W1.heap.size, 2, none⟩ (.int .i64 (nw : Int))) := ⟨_, rfl⟩
            rw [← hW8] at HX8 HB8 HO8 HR8 HR8_C1 ⊢
            obtain ⟨C, hC⟩ : ∃ C, C = W1.heap.size := ⟨_, rfl⟩
            rw [← hC] at HR8 ⊢
            clear hW8 hC
            have hq8 := HX8.out.num
            have hs8 := HX8.out.size
            have S1 := Lib.hid (Text_lex X _ _ W8 HX8.out.lex.is hs8)
            have u0 := (cell_of_row _ _ 0 _ _ _ HR8.out).trans (rfl : _ = some (Value.int .i64 (fr : Int)))
            have u1 := (cell_of_row _ _ 1 _ _ _ HR8.out).trans (rfl : _ = some (Value.int .i64 (ol : Int)))
            have u2 := (cell_of_row _ _ 2 _ _ _ HR8.out).trans (rfl : _ = some (Value.int .i64 (nw : Int)))
            have v0 := (cell_of_row _ _ 0 _ _ _ HR8_C1.out).trans (rfl : _ = some (Value.int .i64 (fr : Int)))
            have v1 := (cell_of_row _ _ 1 _ _ _ HR8_C1.out).trans (rfl : _ = some (Value.int .i64 (ol : Int)))
            have v2 := (cell_of_row _ _ 2 _ _ _ HR8_C1.out).trans (rfl : _ = some (Value.int .i64 (nw : Int)))
            have w3' : IntKind.i64.wrap (q + (nw : Int)) = q + (nw : Int) := IntWalk.i64_in _ (by omega)
            have SD := Lib.hid (fun W (h : IsLexB W X X tt (q + (nw : Int))) => Lexed_any X _ _ W h.is (by omega))
            have SN := Lib.hid (fun W (h : IsLexB W X X tt (q + (nw : Int))) => Lines_any X _ _ W h.is hs8)
            have SR := Lib.hid (fun W => starts_any tt W (by omega))
            have ttq := bytes_beq_yes (rfl : tt = tt)
            go_wp2_with fail
            refine S1.out.mono ?_
            rintro e w10 ⟨rfl, hb10⟩
            have HX10 := Lib.hid (HX8.out.below hb10)
            have HB10 := Lib.hid (HB8.out.trans (hb10.mono HB8.out.size))
            have HO10 := Lib.hid (own_below HO8.out hb10)
            clear hb10 S1 HR8 HR8_C1 HSt HS5
            go_wp2_with fail
            refine (SD.out _ HX10.out.lex).mono ?_
            rintro e w11 ⟨rfl, rfl⟩
            go_wp2_with fail
            refine (SN.out _ HX10.out.lex).mono ?_
            rintro e w12 ⟨rfl, rfl⟩
            go_wp2_with fail
            refine (SR.out _).mono ?_
            rintro e w13 ⟨A13, c13, rfl, -, -, hb13⟩
            have HX13 := Lib.hid (HX10.out.below hb13)
            have HB13 := Lib.hid (HB10.out.trans (hb13.mono HB10.out.size))
            have HO13 := Lib.hid (own_below HO10.out hb13)
            clear hb13 SD SN SR HX8 HB8 HO8 HX10 HB10 HO10 u0 u1 u2 v0 v1 v2
            generalize (piecesB tt).length = PT at *
            go_wp2_with fail
            go_roundw
            case rel => exact ⟨k + 1, _, _, by omega, rfl, rfl, by go_num, HX13, HB13, HO13⟩
            case measure => simp [intOf]; omega
        · refine wpTailK_step rfl (fun K hK => ?_)
          go_wp2_with fail
          refine hK _ _ ⟨(World.cell?_alloc_lt _ _ _ lb).trans c1, (World.cell?_alloc_lt _ _ _ lb).trans c2, (World.cell?_alloc_lt _ _ _ lb).trans c3⟩ ?_
          clear hK K
          try simp only [Act.put, List.setIfInBounds_toArray, List.set_cons_zero, List.set_cons_succ]
          refine wpTailK_step rfl (fun K hK => ?_)
          go_wp2_with fail
          have hbA := (below_new w6 (.cells #[.int .i64 0, .int .i64 0, .int .i64 0] 29)).drew
          have hbAw := HB.out.trans (hbA.mono HB.out.size)
          have hxA := HX.out.below hbA
          have hoA := own_below HO.out hbA
          have hrA := heap_alloc_new w6 (.cells #[.int .i64 0, .int .i64 0, .int .i64 0] 29)
          have hzA : (w6.alloc (.cells #[.int .i64 0, .int .i64 0, .int .i64 0] 29)).drew.heap.size = w6.heap.size + 1 := by simp
          refine (HS5.out _).mono ?_
          rintro e w7 ⟨rfl, hb7'⟩
          have hb7 := hbAw.trans (hb7'.mono hbAw.size)
          have ho7 := own_below hoA hb7'
          have hx7 := hxA.below hb7'
          have hr8 := (hb7'.block w6.heap.size (by rw [hzA]; omega)).trans (show (w6.alloc (.cells #[.int .i64 0, .int .i64 0, .int .i64 0] 29)).drew.heap[w6.heap.size]? = _ from hrA)
          have hx8 := hx7.set3 hr8 (.int .i64 (fr : Int)) (.int .i64 (ol : Int)) (.int .i64 (nw : Int))
          have hb8 := below_set3 hb7 (r := w6.heap.size) HB.out.size (.int .i64 (fr : Int)) (.int .i64 (ol : Int)) (.int .i64 (nw : Int))
          have ho8 := own_set3 ho7 hr8 (by decide) (.int .i64 (fr : Int)) (.int .i64 (ol : Int)) (.int .i64 (nw : Int))
          have hr9 := set3 (b1 := .int .i64 (fr : Int)) (b2 := .int .i64 (ol : Int)) (b3 := .int .i64 (nw : Int)) hr8
          obtain ⟨D5, dc5, eD, -, hH5, -⟩ := holdsC_of_own ho7
          obtain ⟨b5, off5, e5, f1, f2, f3⟩ := hH5 k x HK.out
          cases eD
          cases e5
          have HX8 := Lib.hid hx8
          have HB8 := Lib.hid hb8
          have HO8 := Lib.hid ho8
          have HR8 := Lib.hid hr9
          have y0 := (cell_of_row _ _ 0 _ _ _ hr8).trans (rfl : _ = some (Value.int .i64 0))
          have y1 := (cell_of_row _ _ 1 _ _ _ hr8).trans (rfl : _ = some (Value.int .i64 0))
          have y2 := (cell_of_row _ _ 2 _ _ _ hr8).trans (rfl : _ = some (Value.int .i64 0))
          have z0 : ∀ j, w7.frozen? ⟨w6.heap.size, j, none⟩ = false := fun j => frozen_of_row _ _ j _ _ hr8
          have hO8a := ho7
          have hbC : b ≠ w6.heap.size := fun e => by
            have h1 := own_apart_cells hO8a (show (w7).heap[w6.heap.size]? = _ from hr8) (by decide)
            exact h1 (by rw [← e]; rfl)
          have gA : ∀ o v, (w7).cell? ⟨b, o, none⟩ = some v → ((((w7).setCell ⟨w6.heap.size, 0, none⟩ (.int .i64 (fr : Int))).setCell ⟨w6.heap.size, 1, none⟩ (.int .i64 (ol : Int))).setCell ⟨w6.heap.size, 2, none⟩ (.int .i64 (nw : Int))).cell? ⟨b, o, none⟩ = some v := fun o v h => by
            simp only [World.cell?] at h ⊢
            rw [heap_setCell_other _ _ _ _ hbC, heap_setCell_other _ _ _ _ hbC, heap_setCell_other _ _ _ _ hbC]
            exact h
          clear hx7 hb7 hb7' ho7 hbA hbAw hxA hoA hrA hzA hx8 hb8 ho8 hr9 hr8 hH5 
          go_wp2_with fail
          refine hK _ _ ⟨f1, f2, f3⟩ ?_
          clear hK K
          try simp only [Act.put, List.setIfInBounds_toArray, List.set_cons_zero, List.set_cons_succ]
          refine wpTailK_nil ?_
          repeat (refine wpHead_step (v := ?_) rfl ?_ ?_; rotate_left; (focus (rintro w1 ⟨f1, f2, f3⟩; go_simp; try with_reducible rfl)); simp only [Act.put, List.setIfInBounds_toArray, List.set_cons_zero, List.set_cons_succ])
          refine wpHead_nil ?_
          refine wpTail_step rfl (fun K hK => ?_)
          go_wp2_with fail
          refine hK _ _ ⟨f1, f2, f3⟩ ?_
          clear hK K
          try simp only [Act.put, List.setIfInBounds_toArray, List.set_cons_zero, List.set_cons_succ]
          refine wpTail_step rfl (fun K hK => ?_)
          go_wp2_with fail
          refine hK _ _ ⟨gA _ _ f1, gA _ _ f2, gA _ _ f3⟩ ?_
          clear hK K
          try simp only [Act.put, List.setIfInBounds_toArray, List.set_cons_zero, List.set_cons_succ]
          refine wpTail_step rfl (fun K hK => ?_)
          go_wp2_with fail
          refine hK _ _ ⟨gA _ _ f1, gA _ _ f2, gA _ _ f3⟩ ?_
          clear hK K
          try simp only [Act.put, List.setIfInBounds_toArray, List.set_cons_zero, List.set_cons_succ]
          refine wpTail_nil ?_
          clear f1 f2 f3 gA y0 y1 y2 z0 hbC hO8a
          obtain ⟨W8, hW8⟩ : ∃ W8, W8 = (((w7.setCell ⟨w6.heap.size, 0, none⟩ (.int .i64 (fr : Int))).setCell ⟨w6.heap.size, 1, none⟩ (.int .i64 (ol : Int))).setCell ⟨w6.heap.size, 2, none⟩ (.int .i64 (nw : Int))) := ⟨_, rfl⟩
          rw [← hW8] at HX8 HB8 HO8 HR8  ⊢
          obtain ⟨C, hC⟩ : ∃ C, C = w6.heap.size := ⟨_, rfl⟩
          rw [← hC] at HR8 ⊢
          clear hW8 hC
          obtain ⟨C1, rfl⟩ : ∃ C1, C1 = C := ⟨C, rfl⟩
          obtain ⟨W1, rfl⟩ : ∃ W1, W1 = W8 := ⟨W8, rfl⟩
          have HX1 := HX8
          have HB1 := HB8
          have HO1 := HO8
          have HR1 := HR8
          clear HX8 HB8 HO8 HR8 HX HB HO c1 c2 c3 lb
          have HO1c := HO1.out
          obtain ⟨D5, dc5, eD, -, hH5, -⟩ := holdsC_of_own HO1c
          obtain ⟨b5, off5, e5, c1, c2, c3⟩ := hH5 k x HK.out
          cases eD
          cases e5
          have lb := cell_lt c1
          simp only at lb
          clear hH5 HO1c
          go_wp2_with fail
          refine wp_region_alloc (S := fun w' => w'.cell? ⟨b, off + k * 3, none⟩ = some (.int .i64 x.pos) ∧ w'.cell? ⟨b, off + k * 3 + 1, none⟩ = some (.int .i64 x.n) ∧ w'.cell? ⟨b, off + k * 3 + 2, none⟩ = some (.string x.s)) [0, 1, 2, 3, 4, 5, 6, 7, 8, 9, 10, 11, 12, 13, 14, 15] 16 20 [17, 18, 19] [21, 22] (by kernel_rfl) (by kernel_rfl) (fun _ _ _ _ _ h => h) ⟨c1, c2, c3⟩ ?_
          simp only [pick, List.filterMap_cons, List.filterMap_nil, List.getElem?_toArray, List.getElem?_cons_zero, List.getElem?_cons_succ]
          repeat (refine wpHead_step (v := ?_) rfl ?_ ?_; rotate_left; (focus (rintro w1 ⟨d1, d2, d3⟩; go_simp; try with_reducible rfl)); simp only [Act.put, List.setIfInBounds_toArray, List.set_cons_zero, List.set_cons_succ])
          refine wpHead_nil ⟨?_, ?_⟩
          · refine wpTailK_step rfl (fun K hK => ?_)
            go_wp2_with fail
            refine (HSt.out W1 _ (HX1.out.below (Below.refl _ W1).drew) HB1.out.drew).mono ?_
            rintro e w7 ⟨rfl, hx7, hb7, hz7, hoth7, -⟩
            have ho7 := hoth7.own (show (World.drew W1).ownsRow _ _ _ _ _ _ from HO1.out.drew) (by decide) (by decide)
            have hr7_C1 := hoth7 _ _ _ _ (show (World.drew W1).heap[C1]? = _ from HR1.out) (by decide) (by decide)
            have hbA := below_new w7 (.cells #[.int .i64 0, .int .i64 0, .int .i64 0] 29)
            have hr8 := heap_alloc_new w7 (.cells #[.int .i64 0, .int .i64 0, .int .i64 0] 29)
            have hbV := below_new w7 (.cells #[.int .i64 (fr : Int), .int .i64 (ol : Int), .int .i64 (nw : Int)] 29)
            have hr9 := heap_alloc_new w7 (.cells #[.int .i64 (fr : Int), .int .i64 (ol : Int), .int .i64 (nw : Int)] 29)
            have hx8 := hx7.below hbV
            have hb8 := hb7.trans (hbV.mono hb7.size)
            have ho8 := own_below ho7 hbV
            have HR8_C1 := Lib.hid ((hbV.block _ (Array.getElem?_eq_some_iff.1 hr7_C1).1).trans hr7_C1)
            obtain ⟨D5, dc5, eD, -, hH5, -⟩ := holdsC_of_own ho7
            obtain ⟨b5, off5, e5, d1, d2, d3⟩ := hH5 k x HK.out
            cases eD
            cases e5
            have f1 := (hbA.cell (p := ⟨b, off + k * 3, none⟩) (cell_lt d1)).trans d1
            have f2 := (hbA.cell (p := ⟨b, off + k * 3 + 1, none⟩) (cell_lt d2)).trans d2
            have f3 := (hbA.cell (p := ⟨b, off + k * 3 + 2, none⟩) (cell_lt d3)).trans d3
            have e1 := (hbV.cell (p := ⟨b, off + k * 3, none⟩) (cell_lt d1)).trans d1
            have e2 := (hbV.cell (p := ⟨b, off + k * 3 + 1, none⟩) (cell_lt d2)).trans d2
            have e3 := (hbV.cell (p := ⟨b, off + k * 3 + 2, none⟩) (cell_lt d3)).trans d3
            have HX8 := Lib.hid hx8
            have HB8 := Lib.hid hb8
            have HO8 := Lib.hid ho8
            have HR8 := Lib.hid hr9
            have y0 := (cell_of_row _ _ 0 _ _ _ hr8).trans (rfl : _ = some (Value.int .i64 0))
            have y1 := (cell_of_row _ _ 1 _ _ _ hr8).trans (rfl : _ = some (Value.int .i64 0))
            have y2 := (cell_of_row _ _ 2 _ _ _ hr8).trans (rfl : _ = some (Value.int .i64 0))
            have z0 : ∀ j, (w7.alloc (.cells #[.int .i64 0, .int .i64 0, .int .i64 0] 29)).frozen? ⟨w7.heap.size, j, none⟩ = false := fun j => frozen_of_row _ _ j _ _ hr8
            clear hx7 hb7 ho7 hbA hbV hx8 hb8 ho8 hr9 hr8 hH5 hoth7 hr7_C1
            go_wp2_with fail
            refine hK _ _ ⟨d1, d2, d3⟩ ?_
            clear hK K
            try simp only [Act.put, List.setIfInBounds_toArray, List.set_cons_zero, List.set_cons_succ]
            refine wpTailK_nil ?_
            repeat (refine wpHead_step (v := ?_) rfl ?_ ?_; rotate_left; (focus (rintro w1 ⟨d1, d2, d3⟩; go_simp; try with_reducible rfl)); simp only [Act.put, List.setIfInBounds_toArray, List.set_cons_zero, List.set_cons_succ])
            refine wpHead_nil ?_
            refine wpTail_step rfl (fun K hK => ?_)
            go_wp2_with fail
            refine hK _ _ ⟨f1, f2, f3⟩ ?_
            clear hK K
            try simp only [Act.put, List.setIfInBounds_toArray, List.set_cons_zero, List.set_cons_succ]
            refine wpTail_step rfl (fun K hK => ?_)
            go_wp2_with fail
            refine hK _ _ ⟨e1, e2, e3⟩ ?_
            clear hK K
            try simp only [Act.put, List.setIfInBounds_toArray, List.set_cons_zero, List.set_cons_succ]
            refine wpTail_step rfl (fun K hK => ?_)
            go_wp2_with fail
            refine hK _ _ ⟨e1, e2, e3⟩ ?_
            clear hK K
            try simp only [Act.put, List.setIfInBounds_toArray, List.set_cons_zero, List.set_cons_succ]
            refine wpTail_nil ?_
            clear f1 f2 f3 e1 e2 e3 d1 d2 d3 y0 y1 y2 z0
            obtain ⟨W8, hW8⟩ : ∃ W8, W8 = w7.alloc (.cells #[.int .i64 (fr : Int), .int .i64 (ol : Int), .int .i64 (nw : Int)] 29) := ⟨_, rfl⟩
            rw [← hW8] at HX8 HB8 HO8 HR8 HR8_C1 ⊢
            obtain ⟨C, hC⟩ : ∃ C, C = w7.heap.size := ⟨_, rfl⟩
            rw [← hC] at HR8 ⊢
            clear hW8 hC
            have hq8 := HX8.out.num
            have hs8 := HX8.out.size
            have S1 := Lib.hid (Text_lex X _ _ W8 HX8.out.lex.is hs8)
            have u0 := (cell_of_row _ _ 0 _ _ _ HR8.out).trans (rfl : _ = some (Value.int .i64 (fr : Int)))
            have u1 := (cell_of_row _ _ 1 _ _ _ HR8.out).trans (rfl : _ = some (Value.int .i64 (ol : Int)))
            have u2 := (cell_of_row _ _ 2 _ _ _ HR8.out).trans (rfl : _ = some (Value.int .i64 (nw : Int)))
            have v0 := (cell_of_row _ _ 0 _ _ _ HR8_C1.out).trans (rfl : _ = some (Value.int .i64 (fr : Int)))
            have v1 := (cell_of_row _ _ 1 _ _ _ HR8_C1.out).trans (rfl : _ = some (Value.int .i64 (ol : Int)))
            have v2 := (cell_of_row _ _ 2 _ _ _ HR8_C1.out).trans (rfl : _ = some (Value.int .i64 (nw : Int)))
            have w3' : IntKind.i64.wrap (q + (nw : Int)) = q + (nw : Int) := IntWalk.i64_in _ (by omega)
            have SD := Lib.hid (fun W (h : IsLexB W X X tt (q + (nw : Int))) => Lexed_any X _ _ W h.is (by omega))
            have SN := Lib.hid (fun W (h : IsLexB W X X tt (q + (nw : Int))) => Lines_any X _ _ W h.is hs8)
            have SR := Lib.hid (fun W => starts_any tt W (by omega))
            have ttq := bytes_beq_yes (rfl : tt = tt)
            go_wp2_with fail
            refine S1.out.mono ?_
            rintro e w10 ⟨rfl, hb10⟩
            have HX10 := Lib.hid (HX8.out.below hb10)
            have HB10 := Lib.hid (HB8.out.trans (hb10.mono HB8.out.size))
            have HO10 := Lib.hid (own_below HO8.out hb10)
            clear hb10 S1 HR8 HR8_C1 HSt HS5
            go_wp2_with fail
            refine (SD.out _ HX10.out.lex).mono ?_
            rintro e w11 ⟨rfl, rfl⟩
            go_wp2_with fail
            refine (SN.out _ HX10.out.lex).mono ?_
            rintro e w12 ⟨rfl, rfl⟩
            go_wp2_with fail
            refine (SR.out _).mono ?_
            rintro e w13 ⟨A13, c13, rfl, -, -, hb13⟩
            have HX13 := Lib.hid (HX10.out.below hb13)
            have HB13 := Lib.hid (HB10.out.trans (hb13.mono HB10.out.size))
            have HO13 := Lib.hid (own_below HO10.out hb13)
            clear hb13 SD SN SR HX8 HB8 HO8 HX10 HB10 HO10 u0 u1 u2 v0 v1 v2
            generalize (piecesB tt).length = PT at *
            go_wp2_with fail
            go_roundw
            case rel => exact ⟨k + 1, _, _, by omega, rfl, rfl, by go_num, HX13, HB13, HO13⟩
            case measure => simp [intOf]; omega
          · refine wpTailK_step rfl (fun K hK => ?_)
            go_wp2_with fail
            refine hK _ _ ⟨(World.cell?_alloc_lt _ _ _ lb).trans c1, (World.cell?_alloc_lt _ _ _ lb).trans c2, (World.cell?_alloc_lt _ _ _ lb).trans c3⟩ ?_
            clear hK K
            try simp only [Act.put, List.setIfInBounds_toArray, List.set_cons_zero, List.set_cons_succ]
            refine wpTailK_step rfl (fun K hK => ?_)
            go_wp2_with fail
            have hbA := (below_new W1 (.cells #[.int .i64 0, .int .i64 0, .int .i64 0] 29)).drew
            have hbAw := HB1.out.trans (hbA.mono HB1.out.size)
            have hxA := HX1.out.below hbA
            have hoA := own_below HO1.out hbA
            have hrA := heap_alloc_new W1 (.cells #[.int .i64 0, .int .i64 0, .int .i64 0] 29)
            have hzA : (W1.alloc (.cells #[.int .i64 0, .int .i64 0, .int .i64 0] 29)).drew.heap.size = W1.heap.size + 1 := by simp
            refine (HSt.out W1 _ hxA hbAw).mono ?_
            rintro e w7 ⟨rfl, hx7, hb7, hz7, hoth7, -⟩
            have ho7 := hoth7.own hoA (by decide) (by decide)
            have hr8 := hoth7 _ _ _ _ (show (W1.alloc (.cells #[.int .i64 0, .int .i64 0, .int .i64 0] 29)).drew.heap[W1.heap.size]? = _ from hrA) (by decide) (by decide)
            have hl7_C1 : C1 < W1.heap.size := (Array.getElem?_eq_some_iff.1 HR1.out).1
            have hr7_C1 := hoth7 _ _ _ _ ((hbA.block C1 hl7_C1).trans HR1.out) (by decide) (by decide)
            have hx8 := hx7.set3 hr8 (.int .i64 (fr : Int)) (.int .i64 (ol : Int)) (.int .i64 (nw : Int))
            have hb8 := below_set3 hb7 (r := W1.heap.size) HB1.out.size (.int .i64 (fr : Int)) (.int .i64 (ol : Int)) (.int .i64 (nw : Int))
            have ho8 := own_set3 ho7 hr8 (by decide) (.int .i64 (fr : Int)) (.int .i64 (ol : Int)) (.int .i64 (nw : Int))
            have hr9 := set3 (b1 := .int .i64 (fr : Int)) (b2 := .int .i64 (ol : Int)) (b3 := .int .i64 (nw : Int)) hr8
            have HR8_C1 := Lib.hid ((show (((w7.setCell ⟨W1.heap.size, 0, none⟩ (.int .i64 (fr : Int))).setCell ⟨W1.heap.size, 1, none⟩ (.int .i64 (ol : Int))).setCell ⟨W1.heap.size, 2, none⟩ (.int .i64 (nw : Int))).heap[C1]? = _ from by rw [heap_setCell_other _ _ _ _ (by simp only; omega), heap_setCell_other _ _ _ _ (by simp only; omega), heap_setCell_other _ _ _ _ (by simp only; omega)]).trans hr7_C1)
            obtain ⟨D5, dc5, eD, -, hH5, -⟩ := holdsC_of_own ho7
            obtain ⟨b5, off5, e5, f1, f2, f3⟩ := hH5 k x HK.out
            cases eD
            cases e5
            have HX8 := Lib.hid hx8
            have HB8 := Lib.hid hb8
            have HO8 := Lib.hid ho8
            have HR8 := Lib.hid hr9
            have y0 := (cell_of_row _ _ 0 _ _ _ hr8).trans (rfl : _ = some (Value.int .i64 0))
            have y1 := (cell_of_row _ _ 1 _ _ _ hr8).trans (rfl : _ = some (Value.int .i64 0))
            have y2 := (cell_of_row _ _ 2 _ _ _ hr8).trans (rfl : _ = some (Value.int .i64 0))
            have z0 : ∀ j, w7.frozen? ⟨W1.heap.size, j, none⟩ = false := fun j => frozen_of_row _ _ j _ _ hr8
            have hO8a := ho7
            have hbC : b ≠ W1.heap.size := fun e => by
              have h1 := own_apart_cells hO8a (show (w7).heap[W1.heap.size]? = _ from hr8) (by decide)
              exact h1 (by rw [← e]; rfl)
            have gA : ∀ o v, (w7).cell? ⟨b, o, none⟩ = some v → ((((w7).setCell ⟨W1.heap.size, 0, none⟩ (.int .i64 (fr : Int))).setCell ⟨W1.heap.size, 1, none⟩ (.int .i64 (ol : Int))).setCell ⟨W1.heap.size, 2, none⟩ (.int .i64 (nw : Int))).cell? ⟨b, o, none⟩ = some v := fun o v h => by
              simp only [World.cell?] at h ⊢
              rw [heap_setCell_other _ _ _ _ hbC, heap_setCell_other _ _ _ _ hbC, heap_setCell_other _ _ _ _ hbC]
              exact h
            clear hx7 hb7 hoth7 ho7 hbA hbAw hxA hoA hrA hzA hx8 hb8 ho8 hr9 hr8 hH5 hr7_C1 hl7_C1
            go_wp2_with fail
            refine hK _ _ ⟨f1, f2, f3⟩ ?_
            clear hK K
            try simp only [Act.put, List.setIfInBounds_toArray, List.set_cons_zero, List.set_cons_succ]
            refine wpTailK_nil ?_
            repeat (refine wpHead_step (v := ?_) rfl ?_ ?_; rotate_left; (focus (rintro w1 ⟨f1, f2, f3⟩; go_simp; try with_reducible rfl)); simp only [Act.put, List.setIfInBounds_toArray, List.set_cons_zero, List.set_cons_succ])
            refine wpHead_nil ?_
            refine wpTail_step rfl (fun K hK => ?_)
            go_wp2_with fail
            refine hK _ _ ⟨gA _ _ f1, gA _ _ f2, gA _ _ f3⟩ ?_
            clear hK K
            try simp only [Act.put, List.setIfInBounds_toArray, List.set_cons_zero, List.set_cons_succ]
            refine wpTail_step rfl (fun K hK => ?_)
            go_wp2_with fail
            refine hK _ _ ⟨gA _ _ f1, gA _ _ f2, gA _ _ f3⟩ ?_
            clear hK K
            try simp only [Act.put, List.setIfInBounds_toArray, List.set_cons_zero, List.set_cons_succ]
            refine wpTail_nil ?_
            clear f1 f2 f3 gA y0 y1 y2 z0 hbC hO8a
            obtain ⟨W8, hW8⟩ : ∃ W8, W8 = (((w7.setCell ⟨W1.heap.size, 0, none⟩ (.int .i64 (fr : Int))).setCell ⟨W1.heap.size, 1, none⟩ (.int .i64 (ol : Int))).setCell ⟨W1.heap.size, 2, none⟩ (.int .i64 (nw : Int))) := ⟨_, rfl⟩
            rw [← hW8] at HX8 HB8 HO8 HR8 HR8_C1 ⊢
            obtain ⟨C, hC⟩ : ∃ C, C = W1.heap.size := ⟨_, rfl⟩
            rw [← hC] at HR8 ⊢
            clear hW8 hC
            have hq8 := HX8.out.num
            have hs8 := HX8.out.size
            have S1 := Lib.hid (Text_lex X _ _ W8 HX8.out.lex.is hs8)
            have u0 := (cell_of_row _ _ 0 _ _ _ HR8.out).trans (rfl : _ = some (Value.int .i64 (fr : Int)))
            have u1 := (cell_of_row _ _ 1 _ _ _ HR8.out).trans (rfl : _ = some (Value.int .i64 (ol : Int)))
            have u2 := (cell_of_row _ _ 2 _ _ _ HR8.out).trans (rfl : _ = some (Value.int .i64 (nw : Int)))
            have v0 := (cell_of_row _ _ 0 _ _ _ HR8_C1.out).trans (rfl : _ = some (Value.int .i64 (fr : Int)))
            have v1 := (cell_of_row _ _ 1 _ _ _ HR8_C1.out).trans (rfl : _ = some (Value.int .i64 (ol : Int)))
            have v2 := (cell_of_row _ _ 2 _ _ _ HR8_C1.out).trans (rfl : _ = some (Value.int .i64 (nw : Int)))
            have w3' : IntKind.i64.wrap (q + (nw : Int)) = q + (nw : Int) := IntWalk.i64_in _ (by omega)
            have SD := Lib.hid (fun W (h : IsLexB W X X tt (q + (nw : Int))) => Lexed_any X _ _ W h.is (by omega))
            have SN := Lib.hid (fun W (h : IsLexB W X X tt (q + (nw : Int))) => Lines_any X _ _ W h.is hs8)
            have SR := Lib.hid (fun W => starts_any tt W (by omega))
            have ttq := bytes_beq_yes (rfl : tt = tt)
            go_wp2_with fail
            refine S1.out.mono ?_
            rintro e w10 ⟨rfl, hb10⟩
            have HX10 := Lib.hid (HX8.out.below hb10)
            have HB10 := Lib.hid (HB8.out.trans (hb10.mono HB8.out.size))
            have HO10 := Lib.hid (own_below HO8.out hb10)
            clear hb10 S1 HR8 HR8_C1 HSt HS5
            go_wp2_with fail
            refine (SD.out _ HX10.out.lex).mono ?_
            rintro e w11 ⟨rfl, rfl⟩
            go_wp2_with fail
            refine (SN.out _ HX10.out.lex).mono ?_
            rintro e w12 ⟨rfl, rfl⟩
            go_wp2_with fail
            refine (SR.out _).mono ?_
            rintro e w13 ⟨A13, c13, rfl, -, -, hb13⟩
            have HX13 := Lib.hid (HX10.out.below hb13)
            have HB13 := Lib.hid (HB10.out.trans (hb13.mono HB10.out.size))
            have HO13 := Lib.hid (own_below HO10.out hb13)
            clear hb13 SD SN SR HX8 HB8 HO8 HX10 HB10 HO10 u0 u1 u2 v0 v1 v2
            generalize (piecesB tt).length = PT at *
            go_wp2_with fail
            go_roundw
            case rel => exact ⟨k + 1, _, _, by omega, rfl, rfl, by go_num, HX13, HB13, HO13⟩
            case measure => simp [intOf]; omega
      · obtain rfl : k = L.length := by omega
        have hsize := HX.out.size
        have hlen := tokensS_len t
        have HTL := Lib.hid (show (tokensS t).length ≤ 5000 by omega)
        have HLX := Lib.hid HX.out.lex
        have HTo := Lib.hid (fun W (h : IsLexB W X X t q) => TokensC X t q W h.is hsize)
        have HTr := Lib.hid (fun W => Rf.tokens_any t W hsize)
        have hpl := pieces_le t
        clear HO HG HT HL HX4 HO4 B4 hlen HX
        by_cases hi : 0 ≤ ix ∧ ix < ((piecesB t).length : Int)
        · obtain ⟨n, rfl⟩ : ∃ n : Nat, ix = (n : Int) := ⟨ix.toNat, by omega⟩
          have hp : ∃ p, (piecesB t)[n]? = some p := ⟨_, List.getElem?_eq_getElem (by omega)⟩
          obtain ⟨p, hp⟩ := hp
          have hps := piece_small hp
          have hdl := dLine_len p
          have S1 := Lib.hid (line_any t p n wr (by omega) hp)
          have S2 := Lib.hid (fun W (h : IsLexB W X X t q) => LineC X t p q n W h.is hsize hp)
          have S3 := Lib.hid (fun W => Rf.line_full p W (by omega))
          clear hi hp
          go_wp2_with fail
          refine S1.out.mono ?_
          rintro e w5 ⟨rfl, hb5⟩
          have HLX5 := Lib.hid (HLX.out.below hb5)
          have HB5 := Lib.hid (HB.out.trans (hb5.mono HB.out.size))
          clear hb5 S1
          go_wp2_with fail
          refine (S2.out _ HLX5.out).mono ?_
          rintro e w6 ⟨A6, c6, rfl, hH6, -, hb6⟩
          have HLX6 := Lib.hid (HLX5.out.below hb6)
          have HB6 := Lib.hid (HB5.out.trans (hb6.mono HB5.out.size))
          have HH6 := Lib.hid hH6
          clear hb6 hH6 S2 HLX HLX5 HB5
          go_wp2_with fail
          refine (S3.out _).mono ?_
          rintro e w7 ⟨A7, c7, rfl, hH7, -, hb7⟩
          have S4 := refSame_any (dLine p) (dLine p) A6 A7 c6 c7 w7 (by omega) (by omega) (HH6.out.below hb7) hH7
          rw [show decide (dLine p = dLine p) = true by simp] at S4
          have S4 := Lib.hid S4
          have HLX7 := Lib.hid (HLX6.out.below hb7)
          have HB7 := Lib.hid (HB6.out.trans (hb7.mono HB6.out.size))
          clear hb7 hH7 HH6 HLX6 HB6 S3
          go_wp2_with fail
          refine S4.out.mono ?_
          rintro e w8 ⟨rfl, hb8⟩
          have HLXn := Lib.hid (HLX7.out.below hb8)
          have HBn := Lib.hid (HB7.out.trans (hb8.mono HB7.out.size))
          clear hb8 S4 HLX7 HB7
          have S5 := Lib.hid (HTo.out _ HLXn.out)
          go_wp2_with fail
          refine S5.out.mono ?_
          rintro e w21 ⟨A21, c21, rfl, hH21, -, hb21⟩
          have HB21 := Lib.hid (HBn.out.trans (hb21.mono HBn.out.size))
          have HH21 := Lib.hid hH21
          clear hb21 hH21 S5
          go_wp2_with fail
          refine (HTr.out _).mono ?_
          rintro e w22 ⟨A22, c22, rfl, hH22, -, hb22⟩
          have S6 := refSame_any (tokensS t) (tokensS t) A21 A22 c21 c22 w22 (by have := HTL.out; omega) (by have := HTL.out; omega) (HH21.out.below hb22) hH22
          rw [show decide (tokensS t = tokensS t) = true by simp] at S6
          have S6 := Lib.hid S6
          have HB22 := Lib.hid (HB21.out.trans (hb22.mono HB21.out.size))
          clear hb22 hH22
          go_wp2_with fail
          refine S6.out.mono ?_
          rintro e w23 ⟨rfl, hb23⟩
          have B23 := Lib.hid (HB22.out.trans (hb23.mono HB22.out.size))
          clear hb23
          go_wp2_with fail
          go_ret
          exact ⟨rfl, B23.out⟩
        · have hi2 : ix < 0 ∨ ((piecesB t).length : Int) ≤ ix := by omega
          have S1 := Lib.hid (Rf.line_out t ix wr (by omega) hi2)
          have S2 := Lib.hid (fun W (h : IsLexB W X X t q) => Line_out X t q ix W h.is hi2)
          clear hi hi2
          go_wp2_with fail
          refine S1.out.mono ?_
          rintro e w5 ⟨rfl, hb5⟩
          have HLXn := Lib.hid (HLX.out.below hb5)
          have HBn := Lib.hid (HB.out.trans (hb5.mono HB.out.size))
          clear hb5 S1
          go_wp2_with fail
          refine (S2.out _ HLXn.out).mono ?_
          rintro e w6 ⟨rfl, rfl⟩
          clear S2 HLX
          have S5 := Lib.hid (HTo.out _ HLXn.out)
          go_wp2_with fail
          refine S5.out.mono ?_
          rintro e w21 ⟨A21, c21, rfl, hH21, -, hb21⟩
          have HB21 := Lib.hid (HBn.out.trans (hb21.mono HBn.out.size))
          have HH21 := Lib.hid hH21
          clear hb21 hH21 S5
          go_wp2_with fail
          refine (HTr.out _).mono ?_
          rintro e w22 ⟨A22, c22, rfl, hH22, -, hb22⟩
          have S6 := refSame_any (tokensS t) (tokensS t) A21 A22 c21 c22 w22 (by have := HTL.out; omega) (by have := HTL.out; omega) (HH21.out.below hb22) hH22
          rw [show decide (tokensS t = tokensS t) = true by simp] at S6
          have S6 := Lib.hid S6
          have HB22 := Lib.hid (HB21.out.trans (hb22.mono HB21.out.size))
          clear hb22 hH22
          go_wp2_with fail
          refine S6.out.mono ?_
          rintro e w23 ⟨rfl, hb23⟩
          have B23 := Lib.hid (HB22.out.trans (hb23.mono HB22.out.size))
          clear hb23
          go_wp2_with fail
          go_ret
          exact ⟨rfl, B23.out⟩
end Go.Proofs.YtflpihedhccdfaaGreatDoor
