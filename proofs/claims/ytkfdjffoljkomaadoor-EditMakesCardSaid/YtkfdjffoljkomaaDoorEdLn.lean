/-
  Walk: the edits between two texts, line by line, by the program.
-/
import Derived.Test.YtkfdjffoljkomaaDoorProg
import Derived.Test.YtkfdjffoljkomaaDoorReg
import Derived.WalkKit
import Derived.WalkSpells
import Derived.WalkLawsBesides
import Derived.Lib.Hide
import Derived.Lib.MinMax
import Derived.Deep.QuietTactic
import Derived.BigQuiet
import Derived.OwnWalk
import Derived.Deep.AppendLies
import Derived.KernelRfl
import Derived.Laws.OwnMore
import Derived.Test.YtkfdjffoljkomaaDoorEdSp
import Derived.Test.YtkfdjffoljkomaaDoorEdY
import Derived.Test.YtkfdjffoljkomaaDoorEdZ
set_option linter.unusedSimpArgs false
set_option linter.unusedVariables false
namespace Go.Proofs.YtkfdjffoljkomaaDoor
open Go.RowKit

theorem grown_of_below {w w' : World} (h : Below w.heap.size w w') : w.grownBy w' none := ⟨h.os, h.tape, h.output, h.size, fun k hk _ => h.block k hk⟩
theorem own_below {w w' : World} {base : Nat} {e : TypeId} {size : Nat} {v : Value} {n : Nat} {xs : List Value} (h : w.ownsRow base e size v n xs) (hb : Below w.heap.size w w') : w'.ownsRow base e size v n xs :=
  h.kept (grown_of_below hb) (by cases hv : v.ownBlock <;> simp)

theorem piece_small {s p : ByteArray} {n : Nat} (h : (piecesB s)[n]? = some p) : p.size ≤ s.size := by
  obtain ⟨st, h1, h2, h3, h4, h5⟩ := piece_lies h
  omega

theorem row_string {w : World} {b : Nat} {ps : List ByteArray} {T : TypeId} {fr : Nat × Nat} (h : w.heap[b]? = some (.cells (ps.map Value.string).toArray T fr)) : ∀ (k : Nat) (p : ByteArray), ps[k]? = some p → w.cell? ⟨b, k, none⟩ = some (.string p) := fun k p hp => by
  simp [World.cell?, h, hp]

set_option maxRecDepth 100000 in
set_option maxHeartbeats 4000000 in
theorem lines_any (s t : ByteArray) (w : World) (hs : s.size ≤ 1000000) (ht : t.size ≤ 1000000) :
    Calls Tryd.prog 23 #[.string s, .string t] w fun e w' => ∃ A c, e = .returned (.slice A (linesOut s t).length c) ∧ Holds w' A (linesOut s t) ∧ (linesOut s t).length ≤ c ∧ Below w.heap.size w w' := by
  obtain ⟨i0, hi0, hz0, hz1, hz2⟩ := info_parts infoEd
  have hp1 := pieces_small hs
  have hp2 := pieces_small ht
  have H1 := Lib.hid (fun W => split_any s W (by omega))
  have H2 := Lib.hid (fun W => split_any t W (by omega))
  have HB := Lib.hid (fun W => between_any s t W hs ht)
  have HLn : Hid (linesOut s t = if (piecesB s).length = (piecesB t).length then linesGo (piecesB s) (piecesB t) 0 else between s t) := Lib.hid rfl
  have HP : Hid (∀ (k : Nat) (p : ByteArray), (piecesB s)[k]? = some p → p.size ≤ 1000000) := Lib.hid (fun k p h => by have := piece_small h; omega)
  have HQ : Hid (∀ (k : Nat) (p : ByteArray), (piecesB t)[k]? = some p → p.size ≤ 1000000) := Lib.hid (fun k p h => by have := piece_small h; omega)
  generalize piecesB s = ps at *
  generalize piecesB t = qs at *
  generalize linesOut s t = out at *
  go_enter Tryd.func23, Tryd.ntmps23
  go_wp2_with fail
  refine (H1.out _).mono ?_
  rintro e w1 ⟨rfl, rfl⟩
  go_wp2_with fail
  refine (H2.out _).mono ?_
  rintro e w2 ⟨rfl, rfl⟩
  have hA : ∀ (k : Nat) (p : ByteArray), ps[k]? = some p → ((w.alloc (.cells (ps.map Value.string).toArray 9)).alloc (.cells (qs.map Value.string).toArray 9)).cell? ⟨w.heap.size, k, none⟩ = some (.string p) :=
    row_string ((((Below.refl _ _).alloc (Nat.le_refl _) _).block _ (by simp)).trans (heap_alloc_new w _))
  have hB : ∀ (k : Nat) (p : ByteArray), qs[k]? = some p → ((w.alloc (.cells (ps.map Value.string).toArray 9)).alloc (.cells (qs.map Value.string).toArray 9)).cell? ⟨w.heap.size + 1, k, none⟩ = some (.string p) := by
    have h := heap_alloc_new (w.alloc (.cells (ps.map Value.string).toArray 9)) (.cells (qs.map Value.string).toArray 9)
    rw [World.size_alloc] at h
    exact row_string h
  have hlow0 : Below w.heap.size w ((w.alloc (.cells (ps.map Value.string).toArray 9)).alloc (.cells (qs.map Value.string).toArray 9)) := ((Below.refl _ _).alloc (Nat.le_refl _) _).alloc (by simp) _
  generalize (w.alloc (.cells (ps.map Value.string).toArray 9)).alloc (.cells (qs.map Value.string).toArray 9) = w2 at *
  have hz0' := hlow0.size
  have hA2 := Lib.hid hA
  have hB2 := Lib.hid hB
  clear hA hB H1 H2
  by_cases hN : ps.length = qs.length
  · have hq : ((ps.length : Int) != (qs.length : Int)) = false := by simp [hN]
    have HLn2 : Hid (out = linesGo ps qs 0) := Lib.hid (by rw [HLn.out, if_pos hN])
    have HN := Lib.hid hN
    clear hN HB
    go_wp2
    go_loopw [7, 8, 27] (fun v f i wr => ∃ (k fr : Nat) (done : List Ed), k ≤ ps.length ∧ i = .int .i64 k ∧ f = .int .i64 fr ∧ fr ≤ k * 1000001 ∧ done.length ≤ k ∧ Hid (done ++ linesGo (ps.drop k) (qs.drop k) fr = linesGo ps qs 0) ∧ wr.ownsRow w2.heap.size 35 3 v done.length (edCells done) ∧ Below w2.heap.size w2 wr)
      (fun _ _ i _ => ps.length - (intOf i).toNat)
    case atStart => exact ⟨0, 0, [], by omega, rfl, rfl, by omega, by simp, Lib.hid rfl, World.ownsRow_nil _ _ _ _, Below.refl _ _⟩
    case round =>
      obtain ⟨k, fr, done, hk, rfl, rfl, hfr, hdl, Hd, hown, hb⟩ := hrel
      by_cases hlt : k < ps.length
      · have hlt2 : k < qs.length := by rw [← HN.out]; exact hlt
        have g1 := List.getElem?_eq_getElem hlt
        have g2 := List.getElem?_eq_getElem hlt2
        have c1 := (hb.cell (p := ⟨w.heap.size, k, none⟩) (cell_lt (hA2.out k _ g1))).trans (hA2.out k _ g1)
        have c2 := (hb.cell (p := ⟨w.heap.size + 1, k, none⟩) (cell_lt (hB2.out k _ g2))).trans (hB2.out k _ g2)
        have z1 := HP.out k _ g1
        have z2 := HQ.out k _ g2
        generalize hx : ps[k] = x at *
        generalize hy : qs[k] = y at *
        have Hstep : Hid (done ++ (between x y).map (shiftE fr) ++ linesGo (ps.drop (k + 1)) (qs.drop (k + 1)) (fr + x.size + 1) = linesGo ps qs 0) := Lib.hid (lines_step g1 g2 Hd.out)
        clear hx hy g1 g2 Hd
        have hle := between_le x y
        have Hbx := Lib.hid (between_any x y wr z1 z2)
        have HE : Hid (between x y = [] ∨ between x y = [edge x y]) := Lib.hid (by unfold between; split; exact .inl rfl; exact .inr rfl)
        have hf := front_le x y
        have hf2 := behind_le x y
        go_wp2_with fail
        refine Hbx.out.mono ?_
        rintro e w3 ⟨A, c, rfl, hH, hc, hb3⟩
        have hown3 := own_below hown hb3
        have hb33 := hb.trans (hb3.mono hb.size)
        clear Hbx c1 c2
        rcases HE.out with hE | hE
        · rw [hE] at Hstep hH
          rw [hE]
          clear HE hE
          go_wp2_with fail
          refine wp_loop_rounds 1 ?_
          rw [rounds_succ]
          go_wp2
          go_roundw
          case rel => exact ⟨k + 1, fr + x.size + 1, done, by omega, by go_num, by go_num, by omega, by omega, Lib.hid (by have h := Hstep.out; simpa using h), hown3, hb33⟩
          case measure => simp [intOf]; omega
        · rw [hE] at Hstep hH
          rw [hE]
          clear HE hE
          obtain ⟨b, off, rfl, d1, d2, d3⟩ := hH 0 (edge x y) rfl
          have Hed : Hid (shiftE fr (edge x y) = ⟨(front x y : Int) + fr, (edge x y).n, (edge x y).s⟩) := Lib.hid rfl
          have hpos : (edge x y).pos = (front x y : Int) := rfl
          rw [hpos] at d1
          simp only [Nat.zero_mul, Nat.add_zero] at d1 d2 d3
          generalize edge x y = ed at *
          have lb := cell_lt d1
          clear hH
          go_wp2_with fail
          refine wp_loop_rounds 2 ?_
          rw [rounds_succ]
          have geo := ownBlock_ge hown3
          have hsz3 := hb33.size
          go_wp2_with (at_builtin; go_must (refine wpList_append_own _ rfl _ _ 22 rfl w2.heap.size 35 i0 _ 3 32 Tryd.underlying22 hi0 hz0 hz1 hz2 rfl (by decide) u7 done.length (edCells done) rfl ((hown3.alloc _).alloc _) ⟨w3.heap.size + 1, 0, none⟩ 1 1 (Ed.cells ⟨(front x y : Int) + fr, ed.n, ed.s⟩) rfl rfl (World.news_of_block (cs := (Ed.cells ⟨(front x y : Int) + fr, ed.n, ed.s⟩).toArray) (t := 35) (fr := (0, 0)) (by rw [← World.size_alloc w3]; exact heap_alloc_new _ _)) (by simp [Ed.cells, Value.oneCell']) (by unfold maxLen; omega) (by omega) (by simp; omega) ?_); go_must (intro v1 w4 hown4 hg4 _); go_must (obtain ⟨A9, c9, rfl⟩ := owns_slice hown4))
          rw [rounds_succ]
          have hown5 : w4.ownsRow w2.heap.size 35 3 (.slice A9 (done.length + 1) c9) (done ++ [shiftE fr ed]).length (edCells (done ++ [shiftE fr ed])) := by
            rw [edCells_append, edCells_one, Hed.out, List.length_append]
            exact hown4
          have hb5 : Below w2.heap.size w2 w4 := ((hb33.alloc hsz3 _).alloc (by simp; omega) _).grown hg4 (by simp; omega) geo
          clear hown4 hg4
          go_wp2
          go_roundw
          case rel => exact ⟨k + 1, fr + x.size + 1, done ++ [shiftE fr ed], by omega, by go_num, by go_num, by omega, by simp; omega, Lib.hid (by have h := Hstep.out; simpa using h), hown5, hb5⟩
          case measure => simp [intOf]; omega
      · obtain rfl : k = ps.length := by omega
        have hdone : done = out := by
          rw [HLn2.out, ← Hd.out, List.drop_of_length_le (Nat.le_refl _), linesGo_none, List.append_nil]
        have HD := Lib.hid hdone
        clear hdone
        go_wp2
        go_ret
        obtain ⟨B, d, rfl, _, hH, hcap⟩ := holds_of_own hown
        rw [HD.out] at hH hcap
        exact ⟨B, d, by rw [HD.out]; rfl, hH, hcap, hlow0.trans (hb.mono hz0')⟩
  · have hq : ((ps.length : Int) != (qs.length : Int)) = true := by simp; omega
    have HLn2 : Hid (out = between s t) := Lib.hid (by rw [HLn.out, if_neg hN])
    clear hN
    go_wp2_with fail
    refine (HB.out _).mono ?_
    rintro e w3 ⟨A, c, rfl, hH, hc, hb⟩
    go_wp2
    go_ret
    rw [HLn2.out]
    exact ⟨A, c, rfl, hH, hc, hlow0.trans (hb.mono hz0')⟩
end Go.Proofs.YtkfdjffoljkomaaDoor
