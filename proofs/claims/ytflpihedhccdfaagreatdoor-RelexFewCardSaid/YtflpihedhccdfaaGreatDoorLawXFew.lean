/-
  The law RelexFew: true.
-/
import Derived.Test.YtflpihedhccdfaaGreatDoorProg
import Derived.Test.YtflpihedhccdfaaGreatDoorReg
import Derived.WalkKit
import Derived.WalkSpells
import Derived.WalkLawsBesides
import Derived.Lib.Hide
import Derived.Lib.MinMax
import Derived.Deep.QuietTactic
import Derived.BigQuiet
import Derived.OwnWalk
import Derived.Deep.AppendLies
import Derived.KernelRfl
import Derived.Test.YtflpihedhccdfaaGreatDoorRegA
import Derived.Test.YtflpihedhccdfaaGreatDoorRw7
set_option linter.unusedSimpArgs false
set_option linter.unusedVariables false
namespace Go.Proofs.YtflpihedhccdfaaGreatDoor
open Go Go.RowKit

theorem tens_step (l : List UInt8) (i : Nat) (c : UInt8) (h : l[i]? = some c) : (l.take (i + 1)).count 10 = (l.take i).count 10 + (if c = 10 then 1 else 0) := by
  rw [take_one h, List.count_append, List.count_singleton]
  by_cases hc : c = 10
  · subst hc; rfl
  · rw [if_neg hc, if_neg (by simpa using hc)]
theorem tens_new (s : ByteArray) : (piecesB s).length = s.data.toList.count 10 + 1 := by
  unfold piecesB
  rw [List.length_map, lines_len]

set_option maxRecDepth 100000 in
set_option maxHeartbeats 8000000 in
theorem relexFew_any (s : ByteArray) (l : List Act5) (A : Option Addr) (c : Nat) (a d : Addr) (w : World) (hs : s.size ≤ maxLen) (hl : l.length ≤ maxLen)
    (hsz : ∀ (k : Nat) (x : Act5), l[k]? = some x → x.s.size ≤ maxLen ∧ (-9223372036854775808 ≤ x.n ∧ x.n ≤ 9223372036854775807)) (hh : HoldsC w A l) (hT : Tabs w) (hL : Laid5 a d w) :
    Calls Tryz.prog 4 #[.string s, .slice A l.length c] w fun e w' => e = .returned (.bool true) ∧ Below w.heap.size w w' := by
  have HS := Lib.hid (shown_any a d w hT hL)
  have HC := Lib.hid (fun u => Cut_any s u hs)
  have hcs := cut4010_size s
  generalize cut4010 s = s0 at *
  by_cases hbig : 4000 < s0.size
  · have HN := Lib.hid (fun W (hb : Below w.heap.size w W) => New_full s0 a d W hbig (by unfold maxLen; omega) (hL.below hb))
    clear hT hL hs hsz hh hl
    go_enter Tryz.func4, Tryz.ntmps4
    go_wp2_with fail
    refine HS.out.mono ?_
    rintro e w1 ⟨rfl, hb1⟩
    have HNw := Lib.hid (HN.out _ hb1)
    go_wp2_with fail
    refine (HC.out _).mono ?_
    rintro e w2 ⟨rfl, rfl⟩
    go_wp2_with fail
    refine HNw.out.mono ?_
    rintro e w3 ⟨rfl, rfl⟩
    go_wp2_with fail
    go_ret
    exact ⟨rfl, hb1⟩
  · have hle : s0.size ≤ 4000 := by omega
    have HN := Lib.hid (fun W (hb : Below w.heap.size w W) => New_state s0 W hle (hT.below hb) w.heap.size hb.size)
    have HT := Lib.hid (fun W (hb : Below w.heap.size w W) => hT.below hb)
    have HL := Lib.hid (fun W (hb : Below w.heap.size w W) => hL.below hb)
    have HF := Lib.hid (fun W (hb : Below w.heap.size w W) => Few_any 20 A c l W (by omega) hl (fun k x hx => (hsz k x hx).1) (hh.below hb))
    obtain ⟨hLl, hLg⟩ := few_good hsz 20
    have HG := Lib.hid hLg
    clear hT hL hs hsz hh hl hLg hbig
    generalize fewTo5 l 20 = L at *
    go_enter Tryz.func4, Tryz.ntmps4
    go_wp2_with fail
    refine HS.out.mono ?_
    rintro e w1 ⟨rfl, hb1⟩
    have HNw := Lib.hid (HN.out _ hb1)
    have B1 := Lib.hid hb1
    have hz1 := hb1.size
    clear hb1 HS HN
    go_wp2_with fail
    refine (HC.out _).mono ?_
    rintro e w2 ⟨rfl, rfl⟩
    clear HC
    go_wp2_with fail
    refine HNw.out.mono ?_
    rintro e w3 ⟨rfl, hx3, hb3⟩
    have hB3 := B1.out.trans (hb3.mono hz1)
    have HFw := Lib.hid (HF.out w3 hB3)
    have HX3 := Lib.hid hx3
    have B3 := Lib.hid hB3
    clear hx3 hb3 hB3 HNw HF
    go_wp2_with fail
    refine HFw.out.mono ?_
    rintro e w4 ⟨v4, rfl, ho4, hb4⟩
    have HX4 := Lib.hid (HX3.out.below hb4)
    have B4 := Lib.hid (B3.out.trans (hb4.mono B3.out.size))
    have hX : w.heap.size ≤ w2.heap.size := hz1
    generalize w2.heap.size = X at *
    obtain ⟨D, dc, rfl⟩ := owns_slice ho4
    have HO4 := Lib.hid ho4
    clear ho4 hb4 HFw HX3 B3
    go_wp2_with fail
    go_loopw [8] (fun i wr => ∃ (k : Nat) (t : ByteArray) (q : Int), k ≤ L.length ∧ i = .int .i64 k ∧ Hid (StateL wr w.heap.size X X k t q) ∧ Hid (Below w.heap.size w wr) ∧ Hid (wr.ownsRow w3.heap.size 41 3 (.slice D L.length dc) L.length (actCells L))) (fun i _ => L.length - (intOf i).toNat)
    case atStart => exact ⟨0, _, _, by omega, rfl, HX4, B4, HO4⟩
    case round =>
      obtain ⟨k, t, q, hk, rfl, HX, HB, HO⟩ := hrel
      by_cases hlt : k < L.length
      · have hx := List.getElem?_eq_getElem hlt
        obtain ⟨hxs, hxn⟩ := HG.out k L[k] hx
        generalize L[k] = x at *
        have HK := Lib.hid hx
        have hsize := HX.out.size
        have hq := HX.out.num
        have S1 := Lib.hid (Lexed_any X t q wr HX.out.lex.is (by omega))
        have S2 := Lib.hid (Lines_any X t q wr HX.out.lex.is hsize)
        have HSt := Lib.hid (fun W (hb : Below wr.heap.size wr W) => Splice_state w.heap.size X X k t q x.pos x.n x.s a d w W (HX.out.below hb) (by omega) hxs hxn (HT.out _ (HB.out.trans (hb.mono HB.out.size))) (HL.out _ (HB.out.trans (hb.mono HB.out.size))) (HB.out.trans (hb.mono HB.out.size)) hX hX (Nat.le_trans HB.out.size hb.size))
        clear hx
        go_wp2_with fail
        refine S1.out.mono ?_
        rintro e w5 ⟨rfl, rfl⟩
        go_wp2_with fail
        refine S2.out.mono ?_
        rintro e w6 ⟨rfl, rfl⟩
        clear S1 S2
        obtain ⟨D2, dc2, eD, -, hH, -⟩ := holdsC_of_own HO.out
        obtain ⟨rfl, rfl⟩ : D = D2 ∧ dc = dc2 := by cases eD; exact ⟨rfl, rfl⟩
        obtain ⟨b, off, rfl, c1, c2, c3⟩ := hH k x HK.out
        clear hH eD
        have lb := cell_lt c1
        simp only at lb
        have lb1 : b < (World.drew w6).heap.size := lb
        go_wp2_with fail
        refine wp_region_alloc (S := fun w' => w'.cell? ⟨b, off + k * 3, none⟩ = some (.int .i64 x.pos) ∧ w'.cell? ⟨b, off + k * 3 + 1, none⟩ = some (.int .i64 x.n) ∧ w'.cell? ⟨b, off + k * 3 + 2, none⟩ = some (.string x.s)) [0, 1, 2, 3, 4, 5, 6, 7, 8, 9, 10, 11, 12, 13, 14, 15] 16 20 [17, 18, 19] [21, 22] (by kernel_rfl) (by kernel_rfl) (fun _ _ _ _ _ h => h) ⟨c1, c2, c3⟩ ?_
        simp only [pick, List.filterMap_cons, List.filterMap_nil, List.getElem?_toArray, List.getElem?_cons_zero, List.getElem?_cons_succ]
        repeat (refine wpHead_step (v := ?_) rfl ?_ ?_; rotate_left; (focus (rintro w1 ⟨d1, d2, d3⟩; go_simp; try with_reducible rfl)); simp only [Act.put, List.setIfInBounds_toArray, List.set_cons_zero, List.set_cons_succ])
        refine wpHead_nil ⟨?_, ?_⟩
        · refine wpTailK_step rfl (fun K hK => ?_)
          go_wp2_with fail
          refine (HSt.out _ (Below.refl _ _).drew).mono ?_
          rintro e w7 ⟨rfl, hx7, hb7, hz7, hoth7⟩
          have ho7 := hoth7.own (show (World.drew w6).ownsRow _ _ _ _ _ _ from HO.out.drew) (by decide) (by decide)
          have hbA := below_new w7 (.cells #[.int .i64 0, .int .i64 0, .int .i64 0] 29)
          have hr8 := heap_alloc_new w7 (.cells #[.int .i64 0, .int .i64 0, .int .i64 0] 29)
          have hbV := below_new w7 (.cells #[.int .i64 ((doneS t x.pos x.n x.s).fro : Int), .int .i64 ((doneS t x.pos x.n x.s).old : Int), .int .i64 ((doneS t x.pos x.n x.s).new : Int)] 29)
          have hr9 := heap_alloc_new w7 (.cells #[.int .i64 ((doneS t x.pos x.n x.s).fro : Int), .int .i64 ((doneS t x.pos x.n x.s).old : Int), .int .i64 ((doneS t x.pos x.n x.s).new : Int)] 29)
          have hx8 := hx7.below hbV
          have hb8 := hb7.trans (hbV.mono hb7.size)
          have ho8 := own_below ho7 hbV
          obtain ⟨D5, dc5, eD, -, hH5, -⟩ := holdsC_of_own ho7
          obtain ⟨b5, off5, e5, d1, d2, d3⟩ := hH5 k x HK.out
          cases eD
          cases e5
          have f1 := (hbA.cell (p := ⟨b, off + k * 3, none⟩) (cell_lt d1)).trans d1
          have f2 := (hbA.cell (p := ⟨b, off + k * 3 + 1, none⟩) (cell_lt d2)).trans d2
          have f3 := (hbA.cell (p := ⟨b, off + k * 3 + 2, none⟩) (cell_lt d3)).trans d3
          have e1 := (hbV.cell (p := ⟨b, off + k * 3, none⟩) (cell_lt d1)).trans d1
          have e2 := (hbV.cell (p := ⟨b, off + k * 3 + 1, none⟩) (cell_lt d2)).trans d2
          have e3 := (hbV.cell (p := ⟨b, off + k * 3 + 2, none⟩) (cell_lt d3)).trans d3
          have HX8 := Lib.hid hx8
          have HB8 := Lib.hid hb8
          have HO8 := Lib.hid ho8
          have HR8 := Lib.hid hr9
          have y0 := (cell_of_row _ _ 0 _ _ _ hr8).trans (rfl : _ = some (Value.int .i64 0))
          have y1 := (cell_of_row _ _ 1 _ _ _ hr8).trans (rfl : _ = some (Value.int .i64 0))
          have y2 := (cell_of_row _ _ 2 _ _ _ hr8).trans (rfl : _ = some (Value.int .i64 0))
          have z0 : ∀ j, (w7.alloc (.cells #[.int .i64 0, .int .i64 0, .int .i64 0] 29)).frozen? ⟨w7.heap.size, j, none⟩ = false := fun j => frozen_of_row _ _ j _ _ hr8
          clear hx7 hb7 hoth7 ho7 hbA hbV hx8 hb8 ho8 hr9 hr8 hH5
          go_wp2_with fail
          refine hK _ _ ⟨d1, d2, d3⟩ ?_
          clear hK K
          try simp only [Act.put, List.setIfInBounds_toArray, List.set_cons_zero, List.set_cons_succ]
          refine wpTailK_nil ?_
          repeat (refine wpHead_step (v := ?_) rfl ?_ ?_; rotate_left; (focus (rintro w1 ⟨d1, d2, d3⟩; go_simp; try with_reducible rfl)); simp only [Act.put, List.setIfInBounds_toArray, List.set_cons_zero, List.set_cons_succ])
          refine wpHead_nil ?_
          refine wpTail_step rfl (fun K hK => ?_)
          go_wp2_with fail
          refine hK _ _ ⟨f1, f2, f3⟩ ?_
          clear hK K
          try simp only [Act.put, List.setIfInBounds_toArray, List.set_cons_zero, List.set_cons_succ]
          refine wpTail_step rfl (fun K hK => ?_)
          go_wp2_with fail
          refine hK _ _ ⟨e1, e2, e3⟩ ?_
          clear hK K
          try simp only [Act.put, List.setIfInBounds_toArray, List.set_cons_zero, List.set_cons_succ]
          refine wpTail_step rfl (fun K hK => ?_)
          go_wp2_with fail
          refine hK _ _ ⟨e1, e2, e3⟩ ?_
          clear hK K
          try simp only [Act.put, List.setIfInBounds_toArray, List.set_cons_zero, List.set_cons_succ]
          refine wpTail_nil ?_
          clear f1 f2 f3 e1 e2 e3 d1 d2 d3 y0 y1 y2 z0
          obtain ⟨W8, hW8⟩ : ∃ W8, W8 = w7.alloc (.cells #[.int .i64 ((doneS t x.pos x.n x.s).fro : Int), .int .i64 ((doneS t x.pos x.n x.s).old : Int), .int .i64 ((doneS t x.pos x.n x.s).new : Int)] 29) := ⟨_, rfl⟩
          rw [← hW8] at HX8 HB8 HO8 HR8 ⊢
          obtain ⟨C, hC⟩ : ∃ C, C = w7.heap.size := ⟨_, rfl⟩
          rw [← hC] at HR8 ⊢
          clear hW8 hC
          obtain ⟨hf1, hf2, hf3⟩ := done_facts t x.pos x.n x.s
          have hten := tens_new x.s
          rw [hten] at hf2
          have hf4 : errS t x.pos x.n x.s ≠ 0 → (doneS t x.pos x.n x.s).new = 0 := fun h => by rw [hf3 h]; rfl
          obtain ⟨D5, dc5, eD, -, hH5, -⟩ := holdsC_of_own HO8.out
          obtain ⟨b5, off5, e5, -, -, e3⟩ := hH5 k x HK.out
          cases eD
          cases e5
          have hq8 := HX8.out.num
          have S3 := Lib.hid (Lexed_any X _ _ W8 HX8.out.lex.is (by omega))
          have x0 := (cell_of_row _ _ 0 _ _ _ HR8.out).trans (rfl : _ = some (Value.int .i64 ((doneS t x.pos x.n x.s).fro : Int)))
          have x1 := (cell_of_row _ _ 1 _ _ _ HR8.out).trans (rfl : _ = some (Value.int .i64 ((doneS t x.pos x.n x.s).old : Int)))
          have x2 := (cell_of_row _ _ 2 _ _ _ HR8.out).trans (rfl : _ = some (Value.int .i64 ((doneS t x.pos x.n x.s).new : Int)))
          have hpl := pieces_le t
          clear hf3 hten HR8 hH5 HSt c1 c2 c3
          generalize errS t x.pos x.n x.s = er at *
          generalize (doneS t x.pos x.n x.s).fro = fr at *
          generalize (doneS t x.pos x.n x.s).old = ol at *
          generalize (doneS t x.pos x.n x.s).new = nw at *
          generalize textS t x.pos x.n x.s = tt at *
          have HF2 := Lib.hid hf2
          have HF4 := Lib.hid hf4
          clear hf2 hf4
          go_wp2_with fail
          go_loopw [13, 14] (fun m i wx => ∃ j : Nat, j ≤ x.s.size ∧ i = .int .i64 (j : Int) ∧ m = .int .i64 (((x.s.data.toList.take j).count 10 + 1 : Nat) : Int) ∧ W8 = wx) (fun _ i _ => x.s.size - (intOf i).toNat)
          case atStart => exact ⟨0, Nat.zero_le _, rfl, rfl, rfl⟩
          case round =>
            obtain ⟨j, hj, rfl, rfl, rfl⟩ := hrel
            by_cases hjl : j < x.s.size
            · have hcnt := tens_step x.s.data.toList j x.s[j] (by rw [List.getElem?_eq_getElem (by rw [bytes_len]; exact hjl)]; rfl)
              have hcl : (x.s.data.toList.take j).count 10 ≤ j := Nat.le_trans List.count_le_length (by rw [List.length_take]; omega)
              have hj1 : (j : Int) < (x.s.size : Int) := by omega
              by_cases hc : x.s[j] = 10
              · have hq : ((x.s[j].toNat : Int) == 10) = true := by rw [hc]; rfl
                rw [if_pos hc] at hcnt
                have HCnt := Lib.hid hcnt
                clear hcnt hc
                generalize (x.s.data.toList.take j).count 10 = m at *
                go_wp2_with fail
                go_roundw
                case rel => exact ⟨j + 1, by omega, by go_num, by rw [HCnt.out]; go_num, trivial⟩
                case measure => simp [intOf]; omega
              · have hq : ((x.s[j].toNat : Int) == 10) = false := by
                  rw [beq_eq_false_iff_ne]
                  exact fun e => hc (UInt8.toNat_inj.1 (by simpa using (show x.s[j].toNat = 10 by omega)))
                rw [if_neg hc, Nat.add_zero] at hcnt
                have HCnt := Lib.hid hcnt
                clear hcnt hc
                generalize (x.s.data.toList.take j).count 10 = m at *
                go_wp2_with fail
                go_roundw
                case rel => exact ⟨j + 1, by omega, by go_num, by rw [HCnt.out], trivial⟩
                case measure => simp [intOf]; omega
            · obtain rfl : j = x.s.size := by omega
              have ht : x.s.data.toList.take x.s.size = x.s.data.toList := List.take_of_length_le (by rw [bytes_len]; exact Nat.le_refl _)
              rw [ht]
              have w1 : IntKind.i64.wrap ((fr : Int) + (ol : Int)) = (fr : Int) + (ol : Int) := IntWalk.i64_in _ (by omega)
              have w2 : ¬ (((piecesB t).length : Int) < (fr : Int) + (ol : Int)) := by omega
              have w3 : IntKind.i64.wrap (q + (nw : Int)) = q + (nw : Int) := IntWalk.i64_in _ (by omega)
              have w4 : IntKind.i64.wrap q = q := IntWalk.i64_in _ (by omega)
              by_cases he : er = 0
              · have hn := HF2.out he
                rw [← hn]
                subst he
                clear HF2 HF4 hn ht
                go_wp2_with fail
                refine S3.out.mono ?_
                rintro e w9 ⟨rfl, rfl⟩
                go_wp2_with fail
                go_roundw
                case rel => exact ⟨k + 1, _, _, by omega, by go_num, HX8, HB8, HO8⟩
                case measure => simp [intOf]; omega
              · have hn := HF4.out he
                subst hn
                have he1 : (er == 0) = false := by simpa using he
                clear HF2 HF4 ht
                go_wp2_with fail
                refine S3.out.mono ?_
                rintro e w9 ⟨rfl, rfl⟩
                go_wp2_with fail
                go_roundw
                case rel => exact ⟨k + 1, _, _, by omega, by go_num, HX8, HB8, HO8⟩
                case measure => simp [intOf]; omega
        · refine wpTailK_step rfl (fun K hK => ?_)
          go_wp2_with fail
          refine hK _ _ ⟨(World.cell?_alloc_lt _ _ _ lb).trans c1, (World.cell?_alloc_lt _ _ _ lb).trans c2, (World.cell?_alloc_lt _ _ _ lb).trans c3⟩ ?_
          clear hK K
          try simp only [Act.put, List.setIfInBounds_toArray, List.set_cons_zero, List.set_cons_succ]
          refine wpTailK_step rfl (fun K hK => ?_)
          go_wp2_with fail
          refine (HSt.out _ ((below_new w6 (.cells #[.int .i64 0, .int .i64 0, .int .i64 0] 29)).drew)).mono ?_
          rintro e w7 ⟨rfl, hx7, hb7, hz7, hoth7⟩
          have hbA := (below_new w6 (.cells #[.int .i64 0, .int .i64 0, .int .i64 0] 29))
          have ho7 := hoth7.own (show (World.drew (w6.alloc (.cells #[.int .i64 0, .int .i64 0, .int .i64 0] 29))).ownsRow _ _ _ _ _ _ from (own_below HO.out hbA).drew) (by decide) (by decide)
          have hr8 := hoth7 _ _ _ _ (show (World.drew (w6.alloc (.cells #[.int .i64 0, .int .i64 0, .int .i64 0] 29))).heap[w6.heap.size]? = _ from heap_alloc_new w6 (.cells #[.int .i64 0, .int .i64 0, .int .i64 0] 29)) (by decide) (by decide)
          have hx8 := hx7.set3 hr8 (.int .i64 ((doneS t x.pos x.n x.s).fro : Int)) (.int .i64 ((doneS t x.pos x.n x.s).old : Int)) (.int .i64 ((doneS t x.pos x.n x.s).new : Int))
          have hb8 := below_set3 hb7 (r := w6.heap.size) HB.out.size (.int .i64 ((doneS t x.pos x.n x.s).fro : Int)) (.int .i64 ((doneS t x.pos x.n x.s).old : Int)) (.int .i64 ((doneS t x.pos x.n x.s).new : Int))
          have ho8 := own_set3 ho7 hr8 (by decide) (.int .i64 ((doneS t x.pos x.n x.s).fro : Int)) (.int .i64 ((doneS t x.pos x.n x.s).old : Int)) (.int .i64 ((doneS t x.pos x.n x.s).new : Int))
          have hr9 := set3 (b1 := .int .i64 ((doneS t x.pos x.n x.s).fro : Int)) (b2 := .int .i64 ((doneS t x.pos x.n x.s).old : Int)) (b3 := .int .i64 ((doneS t x.pos x.n x.s).new : Int)) hr8
          obtain ⟨D5, dc5, eD, -, hH5, -⟩ := holdsC_of_own ho7
          obtain ⟨b5, off5, e5, f1, f2, f3⟩ := hH5 k x HK.out
          cases eD
          cases e5
          have HX8 := Lib.hid hx8
          have HB8 := Lib.hid hb8
          have HO8 := Lib.hid ho8
          have HR8 := Lib.hid hr9
          have y0 := (cell_of_row _ _ 0 _ _ _ hr8).trans (rfl : _ = some (Value.int .i64 0))
          have y1 := (cell_of_row _ _ 1 _ _ _ hr8).trans (rfl : _ = some (Value.int .i64 0))
          have y2 := (cell_of_row _ _ 2 _ _ _ hr8).trans (rfl : _ = some (Value.int .i64 0))
          have z0 : ∀ j, w7.frozen? ⟨w6.heap.size, j, none⟩ = false := fun j => frozen_of_row _ _ j _ _ hr8
          have hO8a := ho7
          have hbC : b ≠ w6.heap.size := fun e => by
            have h1 := own_apart_cells hO8a (show (w7).heap[w6.heap.size]? = _ from hr8) (by decide)
            exact h1 (by rw [← e]; rfl)
          have gA : ∀ o v, (w7).cell? ⟨b, o, none⟩ = some v → ((((w7).setCell ⟨w6.heap.size, 0, none⟩ (.int .i64 ((doneS t x.pos x.n x.s).fro : Int))).setCell ⟨w6.heap.size, 1, none⟩ (.int .i64 ((doneS t x.pos x.n x.s).old : Int))).setCell ⟨w6.heap.size, 2, none⟩ (.int .i64 ((doneS t x.pos x.n x.s).new : Int))).cell? ⟨b, o, none⟩ = some v := fun o v h => by
            simp only [World.cell?] at h ⊢
            rw [heap_setCell_other _ _ _ _ hbC, heap_setCell_other _ _ _ _ hbC, heap_setCell_other _ _ _ _ hbC]
            exact h
          clear hx7 hb7 hoth7 ho7 hbA hx8 hb8 ho8 hr9 hr8 hH5
          go_wp2_with fail
          refine hK _ _ ⟨f1, f2, f3⟩ ?_
          clear hK K
          try simp only [Act.put, List.setIfInBounds_toArray, List.set_cons_zero, List.set_cons_succ]
          refine wpTailK_nil ?_
          repeat (refine wpHead_step (v := ?_) rfl ?_ ?_; rotate_left; (focus (rintro w1 ⟨f1, f2, f3⟩; go_simp; try with_reducible rfl)); simp only [Act.put, List.setIfInBounds_toArray, List.set_cons_zero, List.set_cons_succ])
          refine wpHead_nil ?_
          refine wpTail_step rfl (fun K hK => ?_)
          go_wp2_with fail
          refine hK _ _ ⟨gA _ _ f1, gA _ _ f2, gA _ _ f3⟩ ?_
          clear hK K
          try simp only [Act.put, List.setIfInBounds_toArray, List.set_cons_zero, List.set_cons_succ]
          refine wpTail_step rfl (fun K hK => ?_)
          go_wp2_with fail
          refine hK _ _ ⟨gA _ _ f1, gA _ _ f2, gA _ _ f3⟩ ?_
          clear hK K
          try simp only [Act.put, List.setIfInBounds_toArray, List.set_cons_zero, List.set_cons_succ]
          refine wpTail_nil ?_
          clear f1 f2 f3 gA y0 y1 y2 z0 hbC hO8a
          obtain ⟨W8, hW8⟩ : ∃ W8, W8 = (((w7.setCell ⟨w6.heap.size, 0, none⟩ (.int .i64 ((doneS t x.pos x.n x.s).fro : Int))).setCell ⟨w6.heap.size, 1, none⟩ (.int .i64 ((doneS t x.pos x.n x.s).old : Int))).setCell ⟨w6.heap.size, 2, none⟩ (.int .i64 ((doneS t x.pos x.n x.s).new : Int))) := ⟨_, rfl⟩
          rw [← hW8] at HX8 HB8 HO8 HR8 ⊢
          obtain ⟨C, hC⟩ : ∃ C, C = w6.heap.size := ⟨_, rfl⟩
          rw [← hC] at HR8 ⊢
          clear hW8 hC
          obtain ⟨hf1, hf2, hf3⟩ := done_facts t x.pos x.n x.s
          have hten := tens_new x.s
          rw [hten] at hf2
          have hf4 : errS t x.pos x.n x.s ≠ 0 → (doneS t x.pos x.n x.s).new = 0 := fun h => by rw [hf3 h]; rfl
          obtain ⟨D5, dc5, eD, -, hH5, -⟩ := holdsC_of_own HO8.out
          obtain ⟨b5, off5, e5, -, -, e3⟩ := hH5 k x HK.out
          cases eD
          cases e5
          have hq8 := HX8.out.num
          have S3 := Lib.hid (Lexed_any X _ _ W8 HX8.out.lex.is (by omega))
          have x0 := (cell_of_row _ _ 0 _ _ _ HR8.out).trans (rfl : _ = some (Value.int .i64 ((doneS t x.pos x.n x.s).fro : Int)))
          have x1 := (cell_of_row _ _ 1 _ _ _ HR8.out).trans (rfl : _ = some (Value.int .i64 ((doneS t x.pos x.n x.s).old : Int)))
          have x2 := (cell_of_row _ _ 2 _ _ _ HR8.out).trans (rfl : _ = some (Value.int .i64 ((doneS t x.pos x.n x.s).new : Int)))
          have hpl := pieces_le t
          clear hf3 hten HR8 hH5 HSt c1 c2 c3
          generalize errS t x.pos x.n x.s = er at *
          generalize (doneS t x.pos x.n x.s).fro = fr at *
          generalize (doneS t x.pos x.n x.s).old = ol at *
          generalize (doneS t x.pos x.n x.s).new = nw at *
          generalize textS t x.pos x.n x.s = tt at *
          have HF2 := Lib.hid hf2
          have HF4 := Lib.hid hf4
          clear hf2 hf4
          go_wp2_with fail
          go_loopw [13, 14] (fun m i wx => ∃ j : Nat, j ≤ x.s.size ∧ i = .int .i64 (j : Int) ∧ m = .int .i64 (((x.s.data.toList.take j).count 10 + 1 : Nat) : Int) ∧ W8 = wx) (fun _ i _ => x.s.size - (intOf i).toNat)
          case atStart => exact ⟨0, Nat.zero_le _, rfl, rfl, rfl⟩
          case round =>
            obtain ⟨j, hj, rfl, rfl, rfl⟩ := hrel
            by_cases hjl : j < x.s.size
            · have hcnt := tens_step x.s.data.toList j x.s[j] (by rw [List.getElem?_eq_getElem (by rw [bytes_len]; exact hjl)]; rfl)
              have hcl : (x.s.data.toList.take j).count 10 ≤ j := Nat.le_trans List.count_le_length (by rw [List.length_take]; omega)
              have hj1 : (j : Int) < (x.s.size : Int) := by omega
              by_cases hc : x.s[j] = 10
              · have hq : ((x.s[j].toNat : Int) == 10) = true := by rw [hc]; rfl
                rw [if_pos hc] at hcnt
                have HCnt := Lib.hid hcnt
                clear hcnt hc
                generalize (x.s.data.toList.take j).count 10 = m at *
                go_wp2_with fail
                go_roundw
                case rel => exact ⟨j + 1, by omega, by go_num, by rw [HCnt.out]; go_num, trivial⟩
                case measure => simp [intOf]; omega
              · have hq : ((x.s[j].toNat : Int) == 10) = false := by
                  rw [beq_eq_false_iff_ne]
                  exact fun e => hc (UInt8.toNat_inj.1 (by simpa using (show x.s[j].toNat = 10 by omega)))
                rw [if_neg hc, Nat.add_zero] at hcnt
                have HCnt := Lib.hid hcnt
                clear hcnt hc
                generalize (x.s.data.toList.take j).count 10 = m at *
                go_wp2_with fail
                go_roundw
                case rel => exact ⟨j + 1, by omega, by go_num, by rw [HCnt.out], trivial⟩
                case measure => simp [intOf]; omega
            · obtain rfl : j = x.s.size := by omega
              have ht : x.s.data.toList.take x.s.size = x.s.data.toList := List.take_of_length_le (by rw [bytes_len]; exact Nat.le_refl _)
              rw [ht]
              have w1 : IntKind.i64.wrap ((fr : Int) + (ol : Int)) = (fr : Int) + (ol : Int) := IntWalk.i64_in _ (by omega)
              have w2 : ¬ (((piecesB t).length : Int) < (fr : Int) + (ol : Int)) := by omega
              have w3 : IntKind.i64.wrap (q + (nw : Int)) = q + (nw : Int) := IntWalk.i64_in _ (by omega)
              have w4 : IntKind.i64.wrap q = q := IntWalk.i64_in _ (by omega)
              by_cases he : er = 0
              · have hn := HF2.out he
                rw [← hn]
                subst he
                clear HF2 HF4 hn ht
                go_wp2_with fail
                refine S3.out.mono ?_
                rintro e w9 ⟨rfl, rfl⟩
                go_wp2_with fail
                go_roundw
                case rel => exact ⟨k + 1, _, _, by omega, by go_num, HX8, HB8, HO8⟩
                case measure => simp [intOf]; omega
              · have hn := HF4.out he
                subst hn
                have he1 : (er == 0) = false := by simpa using he
                clear HF2 HF4 ht
                go_wp2_with fail
                refine S3.out.mono ?_
                rintro e w9 ⟨rfl, rfl⟩
                go_wp2_with fail
                go_roundw
                case rel => exact ⟨k + 1, _, _, by omega, by go_num, HX8, HB8, HO8⟩
                case measure => simp [intOf]; omega
      · obtain rfl : k = L.length := by omega
        have hb := HB.out
        go_wp2_with fail
        go_ret
        exact ⟨rfl, hb⟩
end Go.Proofs.YtflpihedhccdfaaGreatDoor
