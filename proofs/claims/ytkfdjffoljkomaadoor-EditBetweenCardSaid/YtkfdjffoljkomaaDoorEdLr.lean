/-
  Walk: the edits between two texts, line by line, by the reference.
-/
import Derived.Test.YtkfdjffoljkomaaDoorProg
import Derived.Test.YtkfdjffoljkomaaDoorReg
import Derived.WalkKit
import Derived.WalkSpells
import Derived.WalkLawsBesides
import Derived.Lib.Hide
import Derived.Lib.MinMax
import Derived.Deep.QuietTactic
import Derived.BigQuiet
import Derived.OwnWalk
import Derived.Deep.AppendLies
import Derived.KernelRfl
import Derived.Laws.OwnMore
import Derived.Test.YtkfdjffoljkomaaDoorEdLn
set_option linter.unusedSimpArgs false
set_option linter.unusedVariables false
namespace Go.Proofs.YtkfdjffoljkomaaDoor
open Go.RowKit

theorem starts_lists (s : ByteArray) : startsOf s = stL 0 (listsOf (piecesB s)) := by rw [lists_pieces]; rfl
theorem starts_step {L : List Nat} {ps : List ByteArray} {k fr : Nat} {p : ByteArray} (hp : ps[k]? = some p) (h : L.drop k = stL fr (listsOf (ps.drop k))) :
    L[k]? = some fr ∧ L.drop (k + 1) = stL (fr + p.size + 1) (listsOf (ps.drop (k + 1))) := by
  obtain ⟨h1, rfl⟩ := List.getElem?_eq_some_iff.1 hp
  rw [List.drop_eq_getElem_cons h1] at h
  have e : stL fr (listsOf (ps[k] :: ps.drop (k + 1))) = fr :: stL (fr + ps[k].size + 1) (listsOf (ps.drop (k + 1))) := by
    simp only [listsOf, List.map_cons, stL, bytes_len]
  rw [e] at h
  have h2 : L[k]? = some fr := by
    have := congrArg (fun l => l[0]?) h
    simpa using this
  refine ⟨h2, ?_⟩
  have := congrArg (List.drop 1) h
  rw [List.drop_drop] at this
  simpa using this

set_option maxRecDepth 100000 in
set_option maxHeartbeats 4000000 in
theorem refLines_any (s t : ByteArray) (w : World) (hs : s.size ≤ 1000000) (ht : t.size ≤ 1000000) :
    Calls Tryd.prog 24 #[.string s, .string t] w fun e w' => ∃ A c, e = .returned (.slice A (linesOut s t).length c) ∧ Holds w' A (linesOut s t) ∧ (linesOut s t).length ≤ c ∧ Below w.heap.size w w' := by
  obtain ⟨i0, hi0, hz0, hz1, hz2⟩ := info_parts infoEd
  have hp1 := pieces_small hs
  have hp2 := pieces_small ht
  have H1 := Lib.hid (fun W => starts_any s W hs)
  have H2 := Lib.hid (fun W => starts_any t W ht)
  have HB := Lib.hid (fun W => refBetween_any s t W hs ht)
  have HL1 : Hid (∀ (n : Nat) (p : ByteArray) (W : World), (piecesB s)[n]? = some p → Calls Tryd.prog 33 #[.string s, .int .i64 n] W fun e w' => e = .returned (.tuple #[.string p, .int .i64 0]) ∧ Below W.heap.size W w') := Lib.hid (fun n p W h => line_any s p n W hs h)
  have HL2 : Hid (∀ (n : Nat) (p : ByteArray) (W : World), (piecesB t)[n]? = some p → Calls Tryd.prog 33 #[.string t, .int .i64 n] W fun e w' => e = .returned (.tuple #[.string p, .int .i64 0]) ∧ Below W.heap.size W w') := Lib.hid (fun n p W h => line_any t p n W ht h)
  have HLn : Hid (linesOut s t = if (piecesB s).length = (piecesB t).length then linesGo (piecesB s) (piecesB t) 0 else between s t) := Lib.hid rfl
  have HP : Hid (∀ (k : Nat) (p : ByteArray), (piecesB s)[k]? = some p → p.size ≤ 1000000) := Lib.hid (fun k p h => by have := piece_small h; omega)
  have HQ : Hid (∀ (k : Nat) (p : ByteArray), (piecesB t)[k]? = some p → p.size ≤ 1000000) := Lib.hid (fun k p h => by have := piece_small h; omega)
  have HS : Hid (startsOf s = stL 0 (listsOf (piecesB s))) := Lib.hid (starts_lists s)
  generalize piecesB s = ps at *
  generalize piecesB t = qs at *
  generalize linesOut s t = out at *
  generalize startsOf s = sl at *
  go_enter Tryd.func24, Tryd.ntmps24
  go_wp2_with fail
  refine (H1.out _).mono ?_
  rintro e w1 ⟨A, c, rfl, hH1, hc1, hb1⟩
  go_wp2_with fail
  refine (H2.out _).mono ?_
  rintro e w2 ⟨A2, c2, rfl, -, -, hb2⟩
  have hH := hH1.below hb2
  have hlow0 : Below w.heap.size w w2 := hb1.trans (hb2.mono hb1.size)
  have hz0' := hlow0.size
  clear H1 H2 hH1 hb1 hb2
  by_cases hN : ps.length = qs.length
  · have hq : ((ps.length : Int) != (qs.length : Int)) = false := by simp [hN]
    have HLn2 : Hid (out = linesGo ps qs 0) := Lib.hid (by rw [HLn.out, if_pos hN])
    have HN := Lib.hid hN
    clear hN HB
    go_wp2
    go_loopw [6, 7] (fun v i wr => ∃ (k fr : Nat) (done : List Ed), k ≤ ps.length ∧ i = .int .i64 k ∧ fr ≤ k * 1000001 ∧ done.length ≤ k ∧ Hid (sl.drop k = stL fr (listsOf (ps.drop k))) ∧ Hid (done ++ linesGo (ps.drop k) (qs.drop k) fr = linesGo ps qs 0) ∧ wr.ownsRow w2.heap.size 35 3 v done.length (edCells done) ∧ Below w2.heap.size w2 wr)
      (fun _ i _ => ps.length - (intOf i).toNat)
    case atStart => exact ⟨0, 0, [], by omega, rfl, by omega, by simp, Lib.hid HS.out, Lib.hid rfl, World.ownsRow_nil _ _ _ _, Below.refl _ _⟩
    case round =>
      obtain ⟨k, fr, done, hk, rfl, hfr, hdl, Hsl, Hd, hown, hb⟩ := hrel
      by_cases hlt : k < ps.length
      · have hlt2 : k < qs.length := by rw [← HN.out]; exact hlt
        have g1 := List.getElem?_eq_getElem hlt
        have g2 := List.getElem?_eq_getElem hlt2
        have z1 := HP.out k _ g1
        have z2 := HQ.out k _ g2
        generalize hx : ps[k] = x at *
        generalize hy : qs[k] = y at *
        have Hstep : Hid (done ++ (between x y).map (shiftE fr) ++ linesGo (ps.drop (k + 1)) (qs.drop (k + 1)) (fr + x.size + 1) = linesGo ps qs 0) := Lib.hid (lines_step g1 g2 Hd.out)
        have hst := starts_step g1 Hsl.out
        have Hsl2 := Lib.hid hst.2
        have hsk := hst.1
        have Hx := Lib.hid (fun W => HL1.out k x W g1)
        have Hy := Lib.hid (fun W => HL2.out k y W g2)
        clear hx hy g1 g2 Hd Hsl hst
        have hle := between_le x y
        have Hbx := Lib.hid (fun W => refBetween_any x y W z1 z2)
        have HE : Hid (between x y = [] ∨ between x y = [edge x y]) := Lib.hid (by unfold between; split; exact .inl rfl; exact .inr rfl)
        have hf := front_le x y
        have hf2 := behind_le x y
        go_wp2_with fail
        refine (Hx.out _).mono ?_
        rintro e wx ⟨rfl, hbx⟩
        go_wp2_with fail
        refine (Hy.out _).mono ?_
        rintro e wy ⟨rfl, hby⟩
        go_wp2_with fail
        refine (Hbx.out _).mono ?_
        rintro e w3 ⟨B, cB, rfl, hHB, hcB, hb3, hfresh⟩
        have hwxy : wr.heap.size ≤ wy.heap.size := by have := hbx.size; have := hby.size; omega
        have hb333 : Below wr.heap.size wr w3 := (hbx.trans (hby.mono hbx.size)).trans (hb3.mono (by have := hbx.size; have := hby.size; omega))
        have hown3 := own_below hown hb333
        have hb33 := hb.trans (hb333.mono hb.size)
        clear Hbx Hx Hy hbx hby hb3
        rcases HE.out with hE | hE
        · rw [hE] at Hstep hHB
          rw [hE]
          clear HE hE
          go_wp2_with fail
          refine wp_loop_rounds 1 ?_
          rw [rounds_succ]
          go_wp2
          go_roundw
          case rel => exact ⟨k + 1, fr + x.size + 1, done, by omega, by go_num, by omega, by omega, Hsl2, Lib.hid (by have h := Hstep.out; simpa using h), hown3, hb33⟩
          case measure => simp [intOf]; omega
        · rw [hE] at Hstep hHB hcB
          rw [hE]
          clear HE hE
          obtain ⟨b, off, rfl, d1, d2, d3⟩ := hHB 0 (edge x y) rfl
          obtain ⟨b9, off9, rfl, s1⟩ := (hH.below hb33) k fr hsk
          have Hed : Hid (shiftE fr (edge x y) = ⟨(front x y : Int) + fr, (edge x y).n, (edge x y).s⟩) := Lib.hid rfl
          have hpos : (edge x y).pos = (front x y : Int) := rfl
          rw [hpos] at d1
          simp only [Nat.zero_mul, Nat.add_zero] at d1 d2 d3
          generalize edge x y = ed at *
          have lb := cell_lt d1
          have lb9 := cell_lt s1
          have geo := ownBlock_ge hown3
          have hsz3 := hb33.size
          have hlo9 : u6.ownBlock ≠ some b9 := fun e => by
            have := geo _ e
            obtain ⟨b8, off8, e8, s8⟩ := hH k fr hsk
            cases e8
            have := cell_lt s8
            simp only at this
            omega
          have hlo : u6.ownBlock ≠ some b := fun e => by
            have h1 := ownBlock_lt hown _ e
            have h2 := hfresh _ rfl
            simp only at h2
            omega
          clear hfresh
          clear hHB
          go_wp2_with fail
          refine wp_loop_rounds 2 ?_
          rw [rounds_succ]
          go_wp2_with fail
          have q0 : IntKind.i64.wrap ((front x y : Int) + fr) = (front x y : Int) + fr := IntWalk.i64_in _ (by omega)
          refine wp_region_head (S := fun w' => w'.cell? ⟨b, off, none⟩ = some (.int .i64 (front x y)) ∧ w'.cell? ⟨b, off + 1, none⟩ = some (.int .i64 ed.n) ∧ w'.cell? ⟨b, off + 2, none⟩ = some (.string ed.s) ∧ w'.cell? ⟨b9, off9 + k, none⟩ = some (.int .i64 fr)) 22 (by kernel_rfl) (by kernel_rfl) (fun _ _ _ _ _ h => h) ⟨d1, d2, d3, s1⟩ ?_
          simp only [List.take_succ_cons, List.take_zero, List.drop_succ_cons, List.drop_zero]
          repeat (refine wpHead_step (v := ?_) rfl ?_ ?_; rotate_left; (focus (rintro w1 ⟨y1, y2, y3, y4⟩; go_simp; try with_reducible rfl)); simp only [Act.put, List.setIfInBounds_toArray, List.set_cons_zero, List.set_cons_succ])
          refine wpHead_nil ?_
          have lt1 : b < (World.drew w3).heap.size := by simp; omega
          have lt9 : b9 < (World.drew w3).heap.size := by simp; omega
          refine wpTail_step rfl (fun K hK => ?_)
          go_wp2_with fail
          refine hK _ _ ⟨(World.cell?_alloc_lt _ _ _ lt1).trans d1, (World.cell?_alloc_lt _ _ _ lt1).trans d2, (World.cell?_alloc_lt _ _ _ lt1).trans d3, (World.cell?_alloc_lt _ _ _ lt9).trans s1⟩ ?_
          clear hK K
          try simp only [Act.put, List.setIfInBounds_toArray, List.set_cons_zero, List.set_cons_succ]
          refine wpTail_step rfl (fun K hK => ?_)
          refine wp_append_own _ _ _ 22 rfl w2.heap.size 35 i0 _ 3 32 Tryd.underlying22 hi0 hz0 hz1 hz2 rfl (by decide) u6 done.length (edCells done) rfl ((hown3.alloc _).drew) ⟨w3.heap.size, 0, none⟩ 1 1 (Ed.cells ⟨(front x y : Int) + fr, ed.n, ed.s⟩) rfl rfl (World.news_of_block (cs := (Ed.cells ⟨(front x y : Int) + fr, ed.n, ed.s⟩).toArray) (t := 35) (fr := (0, 0)) (heap_alloc_new w3 _)) (by simp [Ed.cells, Value.oneCell']) (by unfold maxLen; omega) (by omega) (by simp; omega) (fun v' w4 hown4 hg4 _ => ?_)
          have lt2 : ∀ o, (⟨b, o, none⟩ : Addr).block < (World.drew (w3.alloc (.cells (Ed.cells ⟨(front x y : Int) + fr, ed.n, ed.s⟩).toArray 35))).heap.size := fun o => by simp; omega
          have lt3 : ∀ o, (⟨b9, o, none⟩ : Addr).block < (World.drew (w3.alloc (.cells (Ed.cells ⟨(front x y : Int) + fr, ed.n, ed.s⟩).toArray 35))).heap.size := fun o => by simp; omega
          have f1 := (hg4.cell_far ⟨b, off, none⟩ (lt2 _) (Ne.symm hlo)).trans ((World.cell?_alloc_lt _ _ _ lt1).trans d1)
          have f2 := (hg4.cell_far ⟨b, off + 1, none⟩ (lt2 _) (Ne.symm hlo)).trans ((World.cell?_alloc_lt _ _ _ lt1).trans d2)
          have f3 := (hg4.cell_far ⟨b, off + 2, none⟩ (lt2 _) (Ne.symm hlo)).trans ((World.cell?_alloc_lt _ _ _ lt1).trans d3)
          have f4 := (hg4.cell_far ⟨b9, off9 + k, none⟩ (lt3 _) (Ne.symm hlo9)).trans ((World.cell?_alloc_lt _ _ _ lt9).trans s1)
          refine hK _ _ ⟨f1, f2, f3, f4⟩ ?_
          clear hK K
          try simp only [Act.put, List.setIfInBounds_toArray, List.set_cons_zero, List.set_cons_succ]
          refine wpTail_step rfl (fun K hK => ?_)
          go_wp2_with fail
          refine hK _ _ ⟨f1, f2, f3, f4⟩ ?_
          clear hK K
          try simp only [Act.put, List.setIfInBounds_toArray, List.set_cons_zero, List.set_cons_succ]
          refine wpTail_nil ?_
          have hown5 : w4.ownsRow w2.heap.size 35 3 v' (done ++ [shiftE fr ed]).length (edCells (done ++ [shiftE fr ed])) := by
            rw [edCells_append, edCells_one, Hed.out, List.length_append]
            exact hown4
          have hb5 : Below w2.heap.size w2 w4 := ((hb33.alloc hsz3 _).drew).grown hg4 (by simp; omega) geo
          clear hown4 hg4 f1 f2 f3 f4 d1 d2 d3 s1 lt1 lt2 lt3 lt9
          go_wp2
          rw [rounds_succ]
          go_wp2
          go_roundw
          case rel => exact ⟨k + 1, fr + x.size + 1, done ++ [shiftE fr ed], by omega, by go_num, by omega, by simp; omega, Hsl2, Lib.hid (by have h := Hstep.out; simpa using h), hown5, hb5⟩
          case measure => simp [intOf]; omega
      · obtain rfl : k = ps.length := by omega
        have hdone : done = out := by
          rw [HLn2.out, ← Hd.out, List.drop_of_length_le (Nat.le_refl _), linesGo_none, List.append_nil]
        have HD := Lib.hid hdone
        clear hdone
        go_wp2
        go_ret
        obtain ⟨B, d, rfl, _, hHo, hcap⟩ := holds_of_own hown
        rw [HD.out] at hHo hcap
        exact ⟨B, d, by rw [HD.out]; rfl, hHo, hcap, hlow0.trans (hb.mono hz0')⟩
  · have hq : ((ps.length : Int) != (qs.length : Int)) = true := by simp; omega
    have HLn2 : Hid (out = between s t) := Lib.hid (by rw [HLn.out, if_neg hN])
    clear hN
    go_wp2_with fail
    refine (HB.out _).mono ?_
    rintro e w3 ⟨A, c, rfl, hHo, hc, hb, -⟩
    go_wp2
    go_ret
    rw [HLn2.out]
    exact ⟨A, c, rfl, hHo, hc, hlow0.trans (hb.mono hz0')⟩
end Go.Proofs.YtkfdjffoljkomaaDoor
