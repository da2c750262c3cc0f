/-
  The law RelexKeeps: true.
-/
import Derived.Test.YtflpihedhccdfaaGreatDoorProg
import Derived.Test.YtflpihedhccdfaaGreatDoorReg
import Derived.WalkKit
import Derived.WalkSpells
import Derived.WalkLawsBesides
import Derived.Lib.Hide
import Derived.Lib.MinMax
import Derived.Deep.QuietTactic
import Derived.BigQuiet
import Derived.OwnWalk
import Derived.Deep.AppendLies
import Derived.KernelRfl
import Derived.Laws.OwnMore
import Derived.Test.YtflpihedhccdfaaGreatDoorRw7
set_option linter.unusedSimpArgs false
set_option linter.unusedVariables false
namespace Go.Proofs.YtflpihedhccdfaaGreatDoor
open Go Go.RowKit

theorem done_right {t s : ByteArray} {p n : Int} (h : errS t p n s = 0) :
    textS t p n s = putS t p.toNat n.toNat s ∧ doneS t p n s = chgS t p.toNat n.toNat s ∧ p.toNat + n.toNat ≤ t.size := by
  obtain ⟨h1, h2, h3, _⟩ := err_right h
  unfold textS doneS
  rw [if_pos h, if_pos h]
  exact ⟨rfl, rfl, by omega⟩

set_option maxRecDepth 100000 in
set_option maxHeartbeats 8000000 in
theorem relexKeeps_any (s : ByteArray) (p n : Int) (t : ByteArray) (a d : Addr) (w : World) (hs : s.size ≤ maxLen) (hn : -9223372036854775808 ≤ n ∧ n ≤ 9223372036854775807) (ht : t.size ≤ maxLen) (hT : Tabs w) (hL : Laid5 a d w) :
    Calls Tryz.prog 3 #[.string s, .int .i64 p, .int .i64 n, .string t] w fun e w' => e = .returned (.bool true) ∧ Below w.heap.size w w' := by
  have HS := Lib.hid (shown_any a d w hT hL)
  have HC := Lib.hid (fun u => Cut_any s u hs)
  have HC2 := Lib.hid (fun u => Cut_any t u ht)
  have hcs := cut4010_size s
  have hct := cut4010_size t
  generalize cut4010 s = s0 at *
  generalize cut4010 t = t0 at *
  by_cases hbig : 4000 < s0.size
  · have HN := Lib.hid (fun W (hb : Below w.heap.size w W) => New_full s0 a d W hbig (by unfold maxLen; omega) (hL.below hb))
    clear hT hL hs ht hn HC2
    go_enter Tryz.func3, Tryz.ntmps3
    go_wp2_with fail
    refine HS.out.mono ?_
    rintro e w1 ⟨rfl, hb1⟩
    have HNw := Lib.hid (HN.out _ hb1)
    go_wp2_with fail
    refine (HC.out _).mono ?_
    rintro e w2 ⟨rfl, rfl⟩
    go_wp2_with fail
    refine HNw.out.mono ?_
    rintro e w3 ⟨rfl, rfl⟩
    go_wp2_with fail
    refine HNw.out.mono ?_
    rintro e w4 ⟨rfl, rfl⟩
    go_wp2_with fail
    go_ret
    exact ⟨rfl, hb1⟩
  · have hle : s0.size ≤ 4000 := by omega
    have HN := Lib.hid (fun W (hb : Below w.heap.size w W) => New_any s0 W hle (hT.below hb))
    have HT := Lib.hid (fun W (hb : Below w.heap.size w W) => hT.below hb)
    have HL := Lib.hid (fun W (hb : Below w.heap.size w W) => hL.below hb)
    clear hT hL hs ht hbig
    go_enter Tryz.func3, Tryz.ntmps3
    go_wp2_with fail
    refine HS.out.mono ?_
    rintro e w1 ⟨rfl, hb1⟩
    have HNw := Lib.hid (HN.out _ hb1)
    have B1 := Lib.hid hb1
    have hz1 := hb1.size
    clear hb1 HS
    go_wp2_with fail
    refine (HC.out _).mono ?_
    rintro e w2 ⟨rfl, rfl⟩
    clear HC
    go_wp2_with fail
    refine HNw.out.mono ?_
    rintro e w3 ⟨rfl, ⟨v, ls, hx1, hx2, hx3, hx4⟩, hb3⟩
    have hB3 := B1.out.trans (hb3.mono hz1)
    have HNw2 := Lib.hid (HN.out w3 hB3)
    have hvl := ownBlock_lt hx2
    have hX3 : LexV w3 w2.heap.size w2.heap.size v ls s0 (piecesB s0).length := ⟨hx1, hx2, hx3, hx4⟩
    have hXl : w2.heap.size < w3.heap.size := (Array.getElem?_eq_some_iff.1 hx1).1
    have HX3 := Lib.hid hX3
    have B3 := Lib.hid hB3
    clear hx1 hx2 hx3 hx4 hb3 hB3 hX3 HNw HN B1
    go_wp2_with fail
    refine HNw2.out.mono ?_
    rintro e w4 ⟨rfl, ⟨u, ms, hy1, hy2, hy3, hy4⟩, hb4⟩
    have hB4 := B3.out.trans (hb4.mono B3.out.size)
    have hX4 := HX3.out.below hb4
    have hY4 : LexV w4 w3.heap.size w3.heap.size u ms s0 (piecesB s0).length := ⟨hy1, hy2, hy3, hy4⟩
    have hz4 := hb4.size
    have hul : ∀ k, u.ownBlock = some k → w3.heap.size ≤ k := fun k hk => (hy2.lt k hk).1
    have hXt : ∃ cs, w4.heap[w2.heap.size]? = some (.cells cs 68 (0, 0)) := ⟨_, hX4.at_⟩
    have hvt : ∀ k, v.ownBlock = some k → ∃ cs, w4.heap[k]? = some (.cells cs 75 (0, 0)) := fun k hk => by
      rcases hX4.own.2 with ⟨e, _⟩ | ⟨g, _, cur, e, _, hg, _⟩
      · rw [e] at hk; cases hk
      · rw [e] at hk; cases hk; exact ⟨cur, hg⟩
    have hpl := pieces_le s0
    have HSp := Lib.hid (Splice_any w2.heap.size w2.heap.size v ls s0 (piecesB s0).length p n t0 a d w4 hX4 hle (by omega) (by omega) hn (HT.out _ hB4) (HL.out _ hB4))
    have HYk : Hid (∀ W, ButLex w4 W w2.heap.size v → LexV W w3.heap.size w3.heap.size u ms s0 (piecesB s0).length) := Lib.hid fun W hb => hY4.other hb (by omega) (fun k hk e => by have h1 := hvl k hk; have h2 := hul k e; omega) hXt hvt
    have hvge : ∀ k, v.ownBlock = some k → w2.heap.size ≤ k := fun k hk => (hX4.own.lt k hk).1
    have HBk : Hid (∀ W, ButLex w4 W w2.heap.size v → Below w.heap.size w W) := Lib.hid fun W hb => hb.below hB4 hB4.size hz1 (fun k hk => Nat.le_trans hz1 (hvge k hk))
    clear hX4 hY4 hy1 hy2 hy3 hy4 hb4 hB4 hXt hvt hul hvge HNw2 HX3 B3 HT HL hvl
    generalize w2.heap.size = X at *
    generalize w3.heap.size = Y at *
    unfold Chg.val at HSp
    go_wp2_with fail
    refine (HC2.out _).mono ?_
    rintro e w5 ⟨rfl, rfl⟩
    clear HC2
    go_wp2_with fail
    refine HSp.out.mono ?_
    rintro e w6 ⟨rfl, ⟨v', ls', hx6⟩, hbut⟩
    have hy6 := HYk.out w6 hbut
    have hb6 := HBk.out w6 hbut
    have hbA := below_new w6 (.cells #[.int .i64 ((doneS s0 p n t0).fro : Int), .int .i64 ((doneS s0 p n t0).old : Int), .int .i64 ((doneS s0 p n t0).new : Int)] 29)
    have hr7 := heap_alloc_new w6 (.cells #[.int .i64 ((doneS s0 p n t0).fro : Int), .int .i64 ((doneS s0 p n t0).old : Int), .int .i64 ((doneS s0 p n t0).new : Int)] 29)
    have hx7 := hx6.below hbA
    have hy7 := hy6.below hbA
    have hb7 := hb6.trans (hbA.mono hb6.size)
    obtain ⟨hf1, hf2, hf3⟩ := done_facts s0 p n t0
    have hts : (textS s0 p n t0).size ≤ 4000 := textS_size hle
    by_cases he : errS s0 p n t0 = 0
    · obtain ⟨e1, e2, e3⟩ := done_right he
      have hkeep := chg_keeps (t := s0) (s := t0) e3
      have hcount := chg_count (t := s0) (s := t0) e3
      obtain ⟨_, _, _, hle2, hold, hnew⟩ := chg_lines (t := s0) (s := t0) e3
      rw [← e1, ← e2] at hkeep hcount
      rw [← e2] at hle2 hold hnew
      have hpl2 := pieces_le (textS s0 p n t0)
      have hnw := new_le s0 p n t0
      rw [he]
      have HXL := Lib.hid (fun W (h : LexV W X X v' ls' (textS s0 p n t0) ((piecesB s0).length + (doneS s0 p n t0).new)) (k : Nat) (q : ByteArray) (hq : (piecesB (textS s0 p n t0))[k]? = some q) => LineC X _ q _ k W h.is hts hq)
      have HXN := Lib.hid (fun W (h : LexV W X X v' ls' (textS s0 p n t0) ((piecesB s0).length + (doneS s0 p n t0).new)) => Lines_any X _ _ W h.is hts)
      have HYL := Lib.hid (fun W (h : LexV W Y Y u ms s0 (piecesB s0).length) (k : Nat) (q : ByteArray) (hq : (piecesB s0)[k]? = some q) => LineC Y _ q _ k W h.is hle hq)
      have HYN := Lib.hid (fun W (h : LexV W Y Y u ms s0 (piecesB s0).length) => Lines_any Y _ _ W h.is hle)
      have HX7 := Lib.hid hx7
      have HY7 := Lib.hid hy7
      have HB7 := Lib.hid hb7
      have HR7 := Lib.hid hr7
      have HK := Lib.hid hkeep
      have hN : (piecesB s0).length ≤ 4001 := by omega
      have hps : ∀ (k : Nat) (q : ByteArray), (piecesB s0)[k]? = some q → (dLine q).length ≤ 5000 := fun k q hq => by
        have h1 := dLine_len q
        have h2 := piece_small hq
        omega
      have HPS := Lib.hid hps
      obtain ⟨W7, hW7⟩ : ∃ W7, w6.alloc (.cells #[.int .i64 ((doneS s0 p n t0).fro : Int), .int .i64 ((doneS s0 p n t0).old : Int), .int .i64 ((doneS s0 p n t0).new : Int)] 29) = W7 := ⟨_, rfl⟩
      rw [hW7] at HX7 HY7 HB7 HR7
      have HW7 := Lib.hid hW7
      clear hW7 hx6 hbut hy6 hb6 hbA hr7 hx7 hy7 hb7 hf2 hf3 hkeep he e1 e2 e3 HSp HYk HBk hps hpl
      generalize textS s0 p n t0 = tt at *
      generalize (doneS s0 p n t0).fro = fr at *
      generalize (doneS s0 p n t0).old = ol at *
      generalize (doneS s0 p n t0).new = nw at *
      generalize piecesB s0 = P at *
      generalize hQ : piecesB tt = Q at *
      clear hQ
      have HCO := Lib.hid hcount
      clear hcount
      go_upto_region 10 with fail
      rw [HW7.out]
      clear HW7
      have hz7 := HB7.out.size
      have x0 := (cell_of_row _ _ 0 _ _ _ HR7.out).trans (rfl : _ = some (Value.int .i64 (fr : Int)))
      have x1 := (cell_of_row _ _ 1 _ _ _ HR7.out).trans (rfl : _ = some (Value.int .i64 (ol : Int)))
      have x2 := (cell_of_row _ _ 2 _ _ _ HR7.out).trans (rfl : _ = some (Value.int .i64 (nw : Int)))
      have X0 := Lib.hid x0
      have X1 := Lib.hid x1
      have X2 := Lib.hid x2
      clear x0 x1 x2
      generalize w6.heap.size = C at *
      go_wp2_with fail
      go_loopw [16] (fun i wx => ∃ (j : Nat), j ≤ P.length ∧ i = .int .i64 (j : Int) ∧ Hid (Below W7.heap.size W7 wx)) (fun i _ => P.length - (intOf i).toNat)
      case atStart => exact ⟨0, Nat.zero_le _, rfl, Lib.hid (Below.refl _ _)⟩
      case round =>
        obtain ⟨j, hj, rfl, HBx⟩ := hrel
        have HXj := Lib.hid (HX7.out.below HBx.out)
        have HYj := Lib.hid (HY7.out.below HBx.out)
        have S1 := Lib.hid (HYN.out wr HYj.out)
        have x0 := (HBx.out.cell (cell_lt X0.out)).trans X0.out
        have x1 := (HBx.out.cell (cell_lt X1.out)).trans X1.out
        have x2 := (HBx.out.cell (cell_lt X2.out)).trans X2.out
        have w1 : IntKind.i64.wrap ((fr : Int) + (ol : Int)) = (fr : Int) + (ol : Int) := IntWalk.i64_in _ (by omega)
        by_cases hjl : j < P.length
        · have hx := List.getElem?_eq_getElem hjl
          obtain ⟨hk1, hk2⟩ := HK.out j hjl
          have hpl := HPS.out j P[j] hx
          rw [hx] at hk1 hk2
          generalize P[j] = r at *
          have c1 : (j : Int) < (P.length : Int) := by omega
          have c2 : (j : Int) < 4100 := by omega
          have SY := Lib.hid (fun W (hb : Below W7.heap.size W7 W) => HYL.out W (HY7.out.below hb) j r hx)
          have both : ∀ (k : Nat), Q[k]? = some r → Hid (∀ W, Below W7.heap.size W7 W → Calls Tryz.prog 17 #[.pointer (some ⟨X, 0, none⟩), .int .i64 (k : Int)] W fun e w' => GivesT (dLine r) e W w') := fun k hk => Lib.hid fun W hb => HXL.out W (HX7.out.below hb) k r hk
          by_cases ha : j < fr
          · have SX := both j (hk1 ha)
            have g1 : ¬ ((fr : Int) ≤ (j : Int)) := by omega
            have g2 : (j : Int) < (fr : Int) := by omega
            have g3 : decide ((fr : Int) ≤ (j : Int)) = false := by simpa using g1
            clear hk1 hk2 both hx
            go_wp2_with fail
            refine S1.out.mono ?_
            rintro e w8 ⟨rfl, rfl⟩
            have S2 := Lib.hid (SX.out _ HBx.out)
            go_wp2_with fail
            refine S2.out.mono ?_
            rintro e w9 ⟨A9, c9, rfl, hH9, -, hb9⟩
            have HB9 := Lib.hid (HBx.out.trans (hb9.mono HBx.out.size))
            have HH9 := Lib.hid hH9
            have S3 := Lib.hid (SY.out _ HB9.out)
            clear hH9 hb9 S1 S2 SX x0 x1 x2
            go_wp2_with fail
            refine S3.out.mono ?_
            rintro e w10 ⟨A10, c10, rfl, hH10, -, hb10⟩
            have S4 := refSame_any (dLine r) (dLine r) A9 A10 c9 c10 w10 (by omega) (by omega) (HH9.out.below hb10) hH10
            rw [show decide (dLine r = dLine r) = true by simp] at S4
            have S4 := Lib.hid S4
            have HB10 := Lib.hid (HB9.out.trans (hb10.mono HB9.out.size))
            clear hH10 hb10 S3 SY HH9
            go_wp2_with fail
            refine S4.out.mono ?_
            rintro e w11 ⟨rfl, hb11⟩
            have HB11 := Lib.hid (HB10.out.trans (hb11.mono HB10.out.size))
            clear hb11
            go_wp2_with fail
            go_roundw
            case rel => exact ⟨j + 1, by omega, by go_num, HB11⟩
            case measure => simp [intOf]; omega
          · by_cases hb : j < fr + ol
            · have g1 : (fr : Int) ≤ (j : Int) := by omega
              have g2 : (j : Int) < (fr : Int) + (ol : Int) := by omega
              clear hk1 hk2 both hx
              go_wp2_with fail
              refine S1.out.mono ?_
              rintro e w8 ⟨rfl, rfl⟩
              go_wp2_with fail
              go_roundw
              case rel => exact ⟨j + 1, by omega, by go_num, HBx⟩
              case measure => simp [intOf]; omega
            · obtain ⟨kk, hkk⟩ : ∃ kk, kk = j - ol + nw := ⟨_, rfl⟩
              have hk3 := hk2 (by omega)
              rw [← hkk] at hk3
              have SX := both kk hk3
              have g1 : (fr : Int) ≤ (j : Int) := by omega
              have g2 : ¬ ((j : Int) < (fr : Int) + (ol : Int)) := by omega
              have hQl : kk < Q.length := (List.getElem?_eq_some_iff.1 hk3).1
              have g3 : decide ((j : Int) < (fr : Int) + (ol : Int)) = false := by simpa using g2
              have w2 : IntKind.i64.wrap ((j : Int) - (ol : Int)) = (j : Int) - (ol : Int) := IntWalk.i64_in _ (by omega)
              have w3 : IntKind.i64.wrap ((j : Int) - (ol : Int) + (nw : Int)) = (kk : Int) := (IntWalk.i64_in _ (by omega)).trans (by omega)
              clear hk1 hk2 both hx hkk hk3
              go_wp2_with fail
              refine S1.out.mono ?_
              rintro e w8 ⟨rfl, rfl⟩
              have S2 := Lib.hid (SX.out _ HBx.out)
              go_wp2_with fail
              refine S2.out.mono ?_
              rintro e w9 ⟨A9, c9, rfl, hH9, -, hb9⟩
              have HB9 := Lib.hid (HBx.out.trans (hb9.mono HBx.out.size))
              have HH9 := Lib.hid hH9
              have S3 := Lib.hid (SY.out _ HB9.out)
              clear hH9 hb9 S1 S2 SX x0 x1 x2
              go_wp2_with fail
              refine S3.out.mono ?_
              rintro e w10 ⟨A10, c10, rfl, hH10, -, hb10⟩
              have S4 := refSame_any (dLine r) (dLine r) A9 A10 c9 c10 w10 (by omega) (by omega) (HH9.out.below hb10) hH10
              rw [show decide (dLine r = dLine r) = true by simp] at S4
              have S4 := Lib.hid S4
              have HB10 := Lib.hid (HB9.out.trans (hb10.mono HB9.out.size))
              clear hH10 hb10 S3 SY HH9
              go_wp2_with fail
              refine S4.out.mono ?_
              rintro e w11 ⟨rfl, hb11⟩
              have HB11 := Lib.hid (HB10.out.trans (hb11.mono HB10.out.size))
              clear hb11
              go_wp2_with fail
              go_roundw
              case rel => exact ⟨j + 1, by omega, by go_num, HB11⟩
              case measure => simp [intOf]; omega
        · obtain rfl : j = P.length := by omega
          have c1 : ¬ ((P.length : Int) < (P.length : Int)) := by omega
          have hQl : Q.length = P.length - ol + nw := HCO.out
          have w2 : IntKind.i64.wrap ((P.length : Int) - (ol : Int)) = (P.length : Int) - (ol : Int) := IntWalk.i64_in _ (by omega)
          have w3 : IntKind.i64.wrap ((P.length : Int) - (ol : Int) + (nw : Int)) = (Q.length : Int) := (IntWalk.i64_in _ (by omega)).trans (by omega)
          have c3 : (1 : Int) ≤ (nw : Int) := by omega
          have c4 : (1 : Int) ≤ (ol : Int) := by omega
          have c5 : ((Q.length : Int) == (Q.length : Int)) = true := by simp
          have S2 := Lib.hid (HXN.out _ (LexV.below HXj.out (Below.refl _ wr).drew))
          have S3 := Lib.hid (HYN.out _ (LexV.below HYj.out (Below.refl _ wr).drew))
          have HBf := Lib.hid (HB7.out.trans (HBx.out.mono hz7))
          clear hQl
          go_wp2_with fail
          refine S1.out.mono ?_
          rintro e w8 ⟨rfl, rfl⟩
          go_wp2_with fail
          refine wp_region_ord (S := fun w' => w' = w8.drew) [0, 1, 2, 4, 6, 7, 9, 10] [3, 5, 8, 11, 12, 13, 14, 15, 16, 17, 18, 19, 20, 21, 22, 23, 24] (by kernel_rfl) (by kernel_rfl) (fun _ _ _ _ _ h => h) rfl ?_
          simp only [pick, List.filterMap_cons, List.filterMap_nil, List.getElem?_toArray, List.getElem?_cons_zero, List.getElem?_cons_succ]
          iterate 8 ((first | (refine wpHead_step (v := ?_) rfl ?_ ?_; rotate_left; (focus (rintro w1 rfl; go_simp; try with_reducible rfl))) | (refine wpHead_step_w (v := ?_) (by rfl) ?_ ?_; rotate_left; (focus (rintro w1 rfl; go_simp; try with_reducible rfl))) | (refine wpHead_step_un (by rfl) ?_)); simp only [Act.put, List.setIfInBounds_toArray, List.set_cons_zero, List.set_cons_succ])
          refine wpHead_nil ?_
          refine wpTail_step_w (by rfl) (fun K hK => ?_)
          go_wp2_with fail
          refine S2.out.mono ?_
          rintro e w9 ⟨rfl, rfl⟩
          go_wp2_with fail
          refine hK _ _ rfl ?_
          clear hK K
          try simp only [Act.put, List.setIfInBounds_toArray, List.set_cons_zero, List.set_cons_succ]
          refine wpTail_step_w (by rfl) (fun K hK => ?_)
          go_wp2_with fail
          refine S3.out.mono ?_
          rintro e w10 ⟨rfl, rfl⟩
          go_wp2_with fail
          refine hK _ _ rfl ?_
          clear hK K
          try simp only [Act.put, List.setIfInBounds_toArray, List.set_cons_zero, List.set_cons_succ]
          refine wpTail_step_w (by rfl) (fun K hK => ?_)
          go_wp2_with fail
          refine hK _ _ rfl ?_
          clear hK K
          try simp only [Act.put, List.setIfInBounds_toArray, List.set_cons_zero, List.set_cons_succ]
          refine wpTail_step_w (by rfl) (fun K hK => ?_)
          go_wp2_with fail
          refine hK _ _ rfl ?_
          clear hK K
          try simp only [Act.put, List.setIfInBounds_toArray, List.set_cons_zero, List.set_cons_succ]
          refine wpTail_step_w (by rfl) (fun K hK => ?_)
          go_wp2_with fail
          refine hK _ _ rfl ?_
          clear hK K
          try simp only [Act.put, List.setIfInBounds_toArray, List.set_cons_zero, List.set_cons_succ]
          refine wpTail_step_w (by rfl) (fun K hK => ?_)
          go_wp2_with fail
          refine hK _ _ rfl ?_
          clear hK K
          try simp only [Act.put, List.setIfInBounds_toArray, List.set_cons_zero, List.set_cons_succ]
          refine wpTail_step_w (by rfl) (fun K hK => ?_)
          go_wp2_with fail
          refine hK _ _ rfl ?_
          clear hK K
          try simp only [Act.put, List.setIfInBounds_toArray, List.set_cons_zero, List.set_cons_succ]
          refine wpTail_step_w (by rfl) (fun K hK => ?_)
          go_wp2_with fail
          refine hK _ _ rfl ?_
          clear hK K
          try simp only [Act.put, List.setIfInBounds_toArray, List.set_cons_zero, List.set_cons_succ]
          refine wpTail_step_w (by rfl) (fun K hK => ?_)
          go_wp2_with fail
          refine hK _ _ rfl ?_
          clear hK K
          try simp only [Act.put, List.setIfInBounds_toArray, List.set_cons_zero, List.set_cons_succ]
          refine wpTail_step_w (by rfl) (fun K hK => ?_)
          go_wp2_with fail
          refine hK _ _ rfl ?_
          clear hK K
          try simp only [Act.put, List.setIfInBounds_toArray, List.set_cons_zero, List.set_cons_succ]
          refine wpTail_step_w (by rfl) (fun K hK => ?_)
          go_wp2_with fail
          refine hK _ _ rfl ?_
          clear hK K
          try simp only [Act.put, List.setIfInBounds_toArray, List.set_cons_zero, List.set_cons_succ]
          refine wpTail_step_w (by rfl) (fun K hK => ?_)
          go_wp2_with fail
          refine hK _ _ rfl ?_
          clear hK K
          try simp only [Act.put, List.setIfInBounds_toArray, List.set_cons_zero, List.set_cons_succ]
          refine wpTail_step_w (by rfl) (fun K hK => ?_)
          go_wp2_with fail
          refine hK _ _ rfl ?_
          clear hK K
          try simp only [Act.put, List.setIfInBounds_toArray, List.set_cons_zero, List.set_cons_succ]
          refine wpTail_step_w (by rfl) (fun K hK => ?_)
          go_wp2_with fail
          refine hK _ _ rfl ?_
          clear hK K
          try simp only [Act.put, List.setIfInBounds_toArray, List.set_cons_zero, List.set_cons_succ]
          refine wpTail_step_w (by rfl) (fun K hK => ?_)
          go_wp2_with fail
          refine hK _ _ rfl ?_
          clear hK K
          try simp only [Act.put, List.setIfInBounds_toArray, List.set_cons_zero, List.set_cons_succ]
          refine wpTail_step_w (by rfl) (fun K hK => ?_)
          go_wp2_with fail
          refine hK _ _ rfl ?_
          clear hK K
          try simp only [Act.put, List.setIfInBounds_toArray, List.set_cons_zero, List.set_cons_succ]
          refine wpTail_step_w (by rfl) (fun K hK => ?_)
          go_wp2_with fail
          refine hK _ _ rfl ?_
          clear hK K
          try simp only [Act.put, List.setIfInBounds_toArray, List.set_cons_zero, List.set_cons_succ]
          refine wpTail_nil ?_
          go_wp2_with fail
          go_ret
          exact ⟨rfl, HBf.out.drew⟩
    · have e1 := hf3 he
      have e2 : textS s0 p n t0 = s0 := by unfold textS; rw [if_neg he]
      rw [e1, e2] at hx7
      rw [e1] at hy7 hb7 hr7 ⊢
      have he1 : (errS s0 p n t0 == 0) = false := by simpa using he
      have q0 : ((piecesB s0).length : Int) + (noChg.new : Int) = ((piecesB s0).length : Int) := by simp [noChg]
      rw [q0] at hx7
      have S1 := Lib.hid (Text_lex X s0 _ _ hx7.is hle)
      have HXD := Lib.hid (fun W (h : LexV W X X v' ls' s0 (piecesB s0).length) => Lexed_any X s0 _ W h.is (by omega))
      have HYD := Lib.hid (fun W (h : LexV W Y Y u ms s0 (piecesB s0).length) => Lexed_any Y s0 _ W h.is (by omega))
      have HX7 := Lib.hid hx7
      have HY7 := Lib.hid hy7
      have HB7 := Lib.hid hb7
      clear hf1 hf2 hf3 e1 e2 q0 hx6 hbut hy6 hb6 hbA hr7 hx7 hy7 hb7 HSp HYk HBk hts he
      generalize errS s0 p n t0 = er at *
      unfold noChg at S1 HX7 HY7 HB7 ⊢
      go_wp2_with fail
      refine S1.out.mono ?_
      rintro e w8 ⟨rfl, hb8⟩
      have S2 := Lib.hid (HXD.out w8 (HX7.out.below hb8))
      have S3 := Lib.hid (HYD.out w8 (HY7.out.below hb8))
      have B8 := Lib.hid (HB7.out.trans (hb8.mono HB7.out.size))
      clear hb8 S1 HX7 HY7 HB7 HXD HYD
      go_wp2_with fail
      refine S2.out.mono ?_
      rintro e w9 ⟨rfl, rfl⟩
      go_wp2_with fail
      refine S3.out.mono ?_
      rintro e w10 ⟨rfl, rfl⟩
      go_wp2_with fail
      go_ret
      exact ⟨rfl, B8.out⟩
end Go.Proofs.YtflpihedhccdfaaGreatDoor
