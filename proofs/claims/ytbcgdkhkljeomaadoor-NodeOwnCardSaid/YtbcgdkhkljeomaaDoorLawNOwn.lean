/-
  The law NodeOwn: true.
-/
import Derived.Test.YtbcgdkhkljeomaaDoorProg
import Derived.Test.YtbcgdkhkljeomaaDoorReg
import Derived.WalkKit
import Derived.WalkSpells
import Derived.WalkLawsBesides
import Derived.Lib.Hide
import Derived.Lib.MinMax
import Derived.Deep.QuietTactic
import Derived.BigQuiet
import Derived.OwnWalk
import Derived.Deep.AppendLies
import Derived.KernelRfl
import Derived.Test.YtbcgdkhkljeomaaDoorNdLo
import Derived.Test.YtbcgdkhkljeomaaDoorNdV
set_option linter.unusedSimpArgs false
set_option linter.unusedVariables false
namespace Go.Proofs.YtbcgdkhkljeomaaDoor
open Go.RowKit

theorem cut_again (s : ByteArray) : cut50 (cut50 s) = cut50 s := by
  refine bytes_eq ?_
  unfold cut50
  rw [bytes_ext, bytes_ext]
  simp [ByteArray.size_extract, List.take_take]
  try omega
theorem few_again (t : List Nd) : fewN (fewN t) = fewN t := by
  unfold fewN
  rw [← List.map_take, List.take_take, Nat.min_self, List.map_map]
  refine List.map_congr_left fun x _ => ?_
  obtain ⟨k, s, ks⟩ := x
  show few1 (few1 _) = few1 _
  unfold few1
  simp only [Nd.mk.injEq, true_and]
  exact ⟨cut_again s, by rw [List.take_take, Nat.min_self]⟩
theorem some_again (l : List (List Nd)) : someN (someN l) = someN l := by
  unfold someN
  rw [← List.map_take, List.take_take, Nat.min_self, List.map_map]
  exact List.map_congr_left fun x _ => few_again x

/-- Nodes that may be written: their own row, their kids' own rows. -/
structure MayWrite (w : World) (base : Nat) (v : Value) (vs : List Value) : Prop where
  row : (v = .slice none 0 0 ∧ vs = []) ∨ ∃ g cap cs, v = .slice (some ⟨g, 0, none⟩) vs.length cap ∧ base ≤ g ∧ w.heap[g]? = some (.cells cs tN (0, 0)) ∧ ∀ (j : Nat) (x : Value), vs[j]? = some x → cs[j * 3 + 2]? = some x ∧ (cs[j * 3]?).isSome = true
  kids : ∀ x ∈ vs, x = .slice none 0 0 ∨ ∃ g n cap cs, x = .slice (some ⟨g, 0, none⟩) n cap ∧ base ≤ g ∧ w.heap[g]? = some (.cells cs tI (0, 0)) ∧ (0 < n → (cs[0]?).isSome = true)
theorem HasN.mayWrite {w : World} {base : Nat} {v : Value} {L : List (Nd × Value)} (h : HasN w base v L) : MayWrite w base v (L.map Prod.snd) := by
  refine ⟨?_, fun x hx => ?_⟩
  · rcases h.row.2 with ⟨rfl, h0⟩ | ⟨g, cap, cur, rfl, h1, h2, h3, h4, h5, h6⟩
    · have : L = [] := List.eq_nil_of_length_eq_zero h0
      subst this
      exact .inl ⟨rfl, rfl⟩
    · refine .inr ⟨g, cap, cur, by rw [List.length_map], h1, h2, fun j x hx => ?_⟩
      rw [List.getElem?_map] at hx
      obtain ⟨p, hp, rfl⟩ := Option.map_eq_some_iff.1 hx
      have hlt := (List.getElem?_eq_some_iff.1 hp).1
      obtain ⟨c0, _, c2⟩ := ndCells_at L j p hp
      have e0 := (h.row.cellAt (j * 3) (by omega)).trans c0
      have e2 := (h.row.cellAt (j * 3 + 2) (by omega)).trans c2
      rw [cell_of_row0 h2] at e0 e2
      exact ⟨by simpa using e2, by rw [show cur[j * 3]? = _ from by simpa using e0]; rfl⟩
  · obtain ⟨p, hp, rfl⟩ := List.mem_map.1 hx
    rcases (h.kids p hp).2 with ⟨e, _⟩ | ⟨g, cap, cur, e, h1, h2, h3, h4, h5, h6⟩
    · exact .inl e
    · refine .inr ⟨g, _, cap, cur, e, h1, h2, fun h0 => ?_⟩
      have hs : 0 < cur.size := by omega
      rw [Array.getElem?_eq_getElem hs]
      rfl
theorem MayWrite.below {w w' : World} {base : Nat} {v : Value} {vs : List Value} (h : MayWrite w base v vs) (hb : Below w.heap.size w w') : MayWrite w' base v vs := by
  refine ⟨?_, fun x hx => ?_⟩
  · rcases h.row with h1 | ⟨g, cap, cs, e, h1, h2, h3⟩
    · exact .inl h1
    · exact .inr ⟨g, cap, cs, e, h1, (hb.block _ (heap_lt h2)).trans h2, h3⟩
  · rcases h.kids x hx with h1 | ⟨g, n, cap, cs, e, h1, h2, h3⟩
    · exact .inl h1
    · exact .inr ⟨g, n, cap, cs, e, h1, (hb.block _ (heap_lt h2)).trans h2, h3⟩
/-- A kind is written. -/
theorem MayWrite.setKind {w : World} {base g n cap : Nat} {vs : List Value} (h : MayWrite w base (.slice (some ⟨g, 0, none⟩) n cap) vs) (i : Nat) (u : Value) : MayWrite (w.setCell ⟨g, i * 3, none⟩ u) base (.slice (some ⟨g, 0, none⟩) n cap) vs := by
  rcases h.row with ⟨e, _⟩ | ⟨g', cap', cs, e, h1, h2, h3⟩
  · cases e
  · cases e
    have hrow := heap_setCell_same w g (i * 3) _ _ u h2
    refine ⟨.inr ⟨g, cap, _, rfl, h1, hrow, fun j x hx => ?_⟩, fun x hx => ?_⟩
    · obtain ⟨q1, q2⟩ := h3 j x hx
      refine ⟨?_, ?_⟩
      · rw [Array.getElem?_setIfInBounds_ne (by omega)]; exact q1
      · simp only [Array.getElem?_setIfInBounds]
        split
        · split <;> simp_all
        · exact q2
    · rcases h.kids x hx with h4 | ⟨g2, n2, cap2, cs2, e2, h4, h5, h6⟩
      · exact .inl h4
      · refine .inr ⟨g2, n2, cap2, cs2, e2, h4, ?_, h6⟩
        have hne : g2 ≠ g := by
          rintro rfl
          rw [h2] at h5
          simp only [Option.some.injEq, Obj.cells.injEq] at h5
          exact absurd h5.2.1 (by decide)
        rw [heap_setCell_other _ _ _ _ (by simpa using hne)]
        exact h5
/-- A kid is written. -/
theorem MayWrite.setKid {w : World} {base g : Nat} {v : Value} {vs : List Value} (h : MayWrite w base v vs) (hg : ∃ cs, w.heap[g]? = some (.cells cs tI (0, 0))) (u : Value) : MayWrite (w.setCell ⟨g, 0, none⟩ u) base v vs := by
  obtain ⟨cs0, hg⟩ := hg
  have hrow := heap_setCell_same w g 0 _ _ u hg
  refine ⟨?_, fun x hx => ?_⟩
  · rcases h.row with h1 | ⟨g', cap', cs, e, h1, h2, h3⟩
    · exact .inl h1
    · refine .inr ⟨g', cap', cs, e, h1, ?_, h3⟩
      have hne : g' ≠ g := by
        rintro rfl
        rw [h2] at hg
        simp only [Option.some.injEq, Obj.cells.injEq] at hg
        exact absurd hg.2.1 (by decide)
      rw [heap_setCell_other _ _ _ _ (by simpa using hne)]
      exact h2
  · rcases h.kids x hx with h4 | ⟨g2, n2, cap2, cs2, e2, h4, h5, h6⟩
    · exact .inl h4
    · by_cases hne : g2 = g
      · subst hne
        rw [hg] at h5
        cases h5
        refine .inr ⟨g2, n2, cap2, _, e2, h4, hrow, fun h0 => ?_⟩
        have := h6 h0
        simp only [Array.getElem?_setIfInBounds]
        split
        · split <;> simp_all
        · exact this
      · refine .inr ⟨g2, n2, cap2, cs2, e2, h4, ?_, h6⟩
        rw [heap_setCell_other _ _ _ _ (by simpa using hne)]
        exact h5
theorem MayWrite.mono {w : World} {base b : Nat} {v : Value} {vs : List Value} (h : MayWrite w base v vs) (hb : b ≤ base) : MayWrite w b v vs := by
  refine ⟨?_, fun x hx => ?_⟩
  · rcases h.row with h1 | ⟨g, cap, cs, e, h1, h2, h3⟩
    · exact .inl h1
    · exact .inr ⟨g, cap, cs, e, by omega, h2, h3⟩
  · rcases h.kids x hx with h1 | ⟨g, n, cap, cs, e, h1, h2, h3⟩
    · exact .inl h1
    · exact .inr ⟨g, n, cap, cs, e, by omega, h2, h3⟩
theorem mayWrite_nil (w : World) (base : Nat) : MayWrite w base (.slice none 0 0) [] := ⟨.inl ⟨rfl, rfl⟩, fun x hx => by simp at hx⟩
/-- A slice of nodes that may be written, and a number. -/
def GivesW (o : Option (List Nd)) (e : Ending) (w w' : World) : Prop := ∃ A c vs, e = .returned (.tuple #[.slice A (outOf o).length c, .int .i64 (codeO o)]) ∧ vs.length = (outOf o).length ∧ MayWrite w' w.heap.size (.slice A (outOf o).length c) vs ∧ HoldsN w' A (outOf o) ∧ (outOf o).length ≤ c ∧ Below w.heap.size w w'
theorem gives_write {o : Option (List Nd)} {e : Ending} {w w' : World} (h : (match o with
   | none => e = .returned (.tuple #[.slice none 0 0, .int .i64 70])
   | some out => ∃ v L, e = .returned (.tuple #[v, .int .i64 0]) ∧ HasN w' w.heap.size v L ∧ L.map Prod.fst = out) ∧ Below w.heap.size w w') : GivesW o e w w' := by
  obtain ⟨h1, hb⟩ := h
  unfold GivesW
  cases o with
  | none => exact ⟨none, 0, [], h1, rfl, mayWrite_nil _ _, HoldsN.nil _ _, Nat.le_refl _, hb⟩
  | some out =>
    obtain ⟨v, L, rfl, hN, hM⟩ := h1
    have hw := hN.mayWrite
    obtain ⟨A, c, rfl, h2, h3⟩ := hN.opened hM rfl
    exact ⟨A, c, L.map Prod.snd, rfl, by rw [← hM]; simp [outOf], hw, h2, h3, hb⟩

set_option maxRecDepth 100000 in
set_option maxHeartbeats 8000000 in
theorem nodeOwn_any (kind : Int) (s : ByteArray) (l0 : List (List Nd)) (C : Option Addr) (d : Nat) (a : Addr) (w : World) (hk : (Lit.int .i64 kind).wf = true) (hs : s.size ≤ maxLen)
    (hl : l0.length ≤ maxLen) (hsl : ∀ t ∈ l0, t.length ≤ maxLen ∧ ∀ k ∈ t, MayNd k) (hC : HoldsTs w C l0) (he : errNodeAt a w) :
    Calls Tryd.prog 4 #[.int .i64 kind, .string s, .slice C l0.length d] w fun e w' => e = .returned (.bool true) ∧ Below w.heap.size w w' := by
  have HS := Lib.hid (shown_any a w he)
  have HCu := Lib.hid (fun u => cut_any s u hs)
  have hcs := cut_size s
  have HSm := Lib.hid (some_small hsl)
  have HSo := Lib.hid (fun u B q hB => someC l0 B q u hl hsl hB)
  have HSo2 := Lib.hid (fun u B q hB => someC (someN l0) B q u (by have := HSm.out.1; unfold maxLen; omega) (fun t ht => ⟨by have := (HSm.out.2 t ht).1; unfold maxLen; omega, fun x hx => ⟨((HSm.out.2 t ht).2 x hx).1, by have := ((HSm.out.2 t ht).2 x hx).2.2.1; unfold maxLen; omega, by have := ((HSm.out.2 t ht).2 x hx).2.1; unfold maxLen; omega, ((HSm.out.2 t ht).2 x hx).2.2.2⟩⟩) hB)
  rw [some_again] at HSo2
  have HJo := Lib.hid (fun u B q (hu : errNodeAt a u) hB => (join_any kind (cut50 s) (someN l0) B q a u hk (by omega) (by have := HSm.out.1; omega) hB (fun t ht => ⟨by have := (HSm.out.2 t ht).1; omega, (HSm.out.2 t ht).2⟩) hu).mono fun _ _ h => gives_write h)
  have hi := out_int (fun x hx => join_int hx (by omega) (fun t ht => (HSm.out.2 t ht).2)) (o := joinN kind (cut50 s) (someN l0))
  have hlen := out_len (fun x hx => (joinN_eq hx).2.2) (o := joinN kind (cut50 s) (someN l0))
  have code_or : ∀ o : Option (List Nd), codeO o = 0 ∨ ((codeO o == 0) = false ∧ decide (codeO o = 0) = false ∧ (outOf o).length = 0) := fun o => by
    cases o with
    | none => exact .inr ⟨rfl, rfl, rfl⟩
    | some x => exact .inl rfl
  have hcode := code_or (joinN kind (cut50 s) (someN l0))
  generalize cut50 s = cs at *
  generalize someN l0 = l at *
  unfold GivesW at HJo
  generalize joinN kind cs l = o at *
  generalize outOf o = t at *
  generalize codeO o = code at *
  have HOw := Lib.hid (fun u B q hB => own_any t B q u hB (by omega) (fun x hx => by have := (hi x hx).2.1; omega))
  have HKi := Lib.hid (fun u B q hB (hq : t.length ≤ q) (hu : errNodeAt a u) => (kidOf_any t 0 B q a u hB hi hq (by omega) hu).mono fun _ _ h => gives_write h)
  have hkc := code_or (kidN t 0)
  have hkl : (outOf (kidN t 0)).length ≤ 400 := out_len (fun x hx => (kid_int hx hi).2)
  have HIT := Lib.hid hi
  unfold GivesW at HKi
  generalize kidN t 0 = ko at *
  generalize hkn : (outOf ko).length = m at *
  generalize codeO ko = kcode at *
  clear hsl hi hkn code_or
  go_enter Tryd.func4, Tryd.ntmps4
  go_wp2_with fail
  refine HS.out.mono ?_
  rintro e w1 ⟨rfl, hb1⟩
  have hC1 := hC.below hb1
  have he1 := err_below he hb1
  clear HS hC he
  go_wp2_with fail
  refine (HSo.out w1 C d hC1).mono ?_
  rintro e w2 ⟨C2, d2, rfl, hC2, z2, hb2⟩
  have he2 := err_below he1 hb2
  have B2 := Lib.hid (hb1.trans (hb2.mono hb1.size))
  clear HSo hC1 he1 hb1 hb2
  go_wp2_with fail
  refine (HSo2.out w2 C2 d2 hC2).mono ?_
  rintro e w3 ⟨C3, d3, rfl, hC3, z3, hb3⟩
  have hC23 := hC2.below hb3
  have he3 := err_below he2 hb3
  have B3 := Lib.hid (B2.out.trans (hb3.mono B2.out.size))
  clear HSo2 hC2 he2 B2 hb3
  go_wp2_with fail
  refine (HCu.out w3).mono ?_
  rintro e w3' ⟨rfl, rfl⟩
  go_wp2_with fail
  refine (HJo.out _ C2 d2 he3 hC23).mono ?_
  rintro e w4 ⟨D, e4, vs, rfl, hvl, hMW, hD, z4, hb4⟩
  have he4 := err_below he3 hb4
  have HC4 := Lib.hid hC23
  have HC4b := Lib.hid hC3
  have B4 := Lib.hid hb4
  have HMW := Lib.hid hMW
  have HvL := Lib.hid hvl
  clear HJo hC23 hC3 he3 hb4 hMW hvl
  go_wp2_with fail
  refine (HOw.out w4 D e4 hD).mono ?_
  rintro e w5 ⟨v5, L5, rfl, hm5, hN5, hb5⟩
  obtain ⟨U, c5, rfl, hU, z5⟩ := hN5.opened hm5 rfl
  have he5 := err_below he4 hb5
  have hD5 := hD.below hb5
  have HMW5 := Lib.hid (HMW.out.below hb5)
  have HD5 := Lib.hid hD5
  have HU5 := Lib.hid hU
  have B5 := Lib.hid (B4.out.trans (hb5.mono B4.out.size))
  clear HOw hN5 hm5 he4 hb5 hD HMW hU hD5
  go_wp2_with fail
  refine (HKi.out w5 D e4 HD5.out z4 he5).mono ?_
  rintro e w6 ⟨K, c6, ks, rfl, hkl6, hMK, -, z6, hb6⟩
  have HKL := Lib.hid hkl6
  have HMK := Lib.hid hMK
  have HB56 := Lib.hid hb6
  clear HKi he5 hkl6 hMK hb6
  go_wp2_with fail
  go_loopw [14] (fun v wr => ∃ (i : Nat), v = .int .i64 i ∧ i ≤ m ∧ Hid (MayWrite wr w5.heap.size (.slice K m c6) ks) ∧ Hid (Below w5.heap.size w6 wr)) (fun v _ => m - (intOf v).toNat)
  case atStart => exact ⟨0, rfl, Nat.zero_le _, HMK, Lib.hid (Below.refl _ _)⟩
  case round =>
    obtain ⟨i, rfl, hi, HM, HB⟩ := hrel
    by_cases hlt : i < m
    · have hvl : i < ks.length := by rw [HKL.out]; exact hlt
      have gx := List.getElem?_eq_getElem hvl
      have hxm := List.getElem_mem hvl
      generalize ks[i] = x at *
      have hrow := HM.out.row
      rcases hrow with ⟨e, e2⟩ | ⟨g, cap, cs1, e, hbg, hg, hcells⟩
      · exfalso
        rw [e2] at hvl
        simp at hvl
      obtain ⟨q1, q2⟩ := hcells i x gx
      obtain ⟨y, q2⟩ := Option.isSome_iff_exists.1 q2
      obtain rfl : K = some ⟨g, 0, none⟩ := (Value.slice.inj e).1
      have f0 : wr.cell? ⟨g, i * 3, none⟩ = some y := by rw [cell_of_row0 hg]; exact q2
      have fz : wr.frozen? ⟨g, i * 3, none⟩ = false := frozen_of_row wr _ _ _ _ hg
      have HM1 := Lib.hid (HM.out.setKind i (.int .i64 99))
      have hg1 := heap_setCell_same wr g (i * 3) _ _ (.int .i64 99) hg
      have HB1 := Lib.hid (HB.out.setCell (p := ⟨g, i * 3, none⟩) hbg (.int .i64 99))
      have f2 : (wr.setCell ⟨g, i * 3, none⟩ (.int .i64 99)).cell? ⟨g, i * 3 + 2, none⟩ = some x := by
        rw [cell_of_row0 hg1, Array.getElem?_setIfInBounds_ne (by omega)]
        exact q1
      have hx := HM1.out.kids x hxm
      clear q1 q2 hcells gx hxm e hvl
      generalize hW1 : wr.setCell ⟨g, i * 3, none⟩ (.int .i64 99) = W1 at *
      rcases hx with rfl | ⟨g2, n2, cap2, cs2, rfl, hb2, hg2, hn2⟩
      · go_wp2_with fail
        go_roundw
        case rel => exact ⟨i + 1, by go_num, by omega, HM1, HB1⟩
        case measure => simp [intOf]; omega
      · by_cases h0 : 0 < n2
        · obtain ⟨y2, hy2⟩ := Option.isSome_iff_exists.1 (hn2 h0)
          have f3 : W1.cell? ⟨g2, 0, none⟩ = some y2 := by rw [cell_of_row0 hg2]; exact hy2
          have fz3 : W1.frozen? ⟨g2, 0, none⟩ = false := frozen_of_row W1 _ _ _ _ hg2
          have HM2 := Lib.hid (HM1.out.setKid ⟨_, hg2⟩ (.int .i64 99))
          have HB2 := Lib.hid (HB1.out.setCell (p := ⟨g2, 0, none⟩) hb2 (.int .i64 99))
          clear hn2 hy2
          go_wp2_with fail
          go_roundw
          case rel => exact ⟨i + 1, by go_num, by omega, HM2, HB2⟩
          case measure => simp [intOf]; omega
        · obtain rfl : n2 = 0 := by omega
          go_wp2_with fail
          go_roundw
          case rel => exact ⟨i + 1, by go_num, by omega, HM1, HB1⟩
          case measure => simp [intOf]; omega
    · obtain rfl : i = m := by omega
      have H5r := Lib.hid (HB56.out.trans HB.out : Below w5.heap.size w5 wr)
      have HSt := Lib.hid (refSameC t D U e4 c5 wr (by omega) (HD5.out.below H5r.out) (HU5.out.below H5r.out) HIT.out)
      have HMW6 := Lib.hid (HMW5.out.below H5r.out)
      have HW6 := Lib.hid (B5.out.trans (H5r.out.mono B5.out.size))
      clear HM HB H5r HD5 HU5 HMW5 HB56 HMK
      go_wp2_with fail
      refine HSt.out.mono ?_
      rintro e w7 ⟨rfl, hb7⟩
      have HMW7 := Lib.hid (HMW6.out.below hb7)
      have HW7 := Lib.hid (HW6.out.trans (hb7.mono HW6.out.size))
      clear HMW6 HW6 hb7 HSt
      go_wp2_with fail
      go_loopw [16] (fun v wr => ∃ (i : Nat), v = .int .i64 i ∧ i ≤ t.length ∧ Hid (MayWrite wr w3'.heap.size (.slice D t.length e4) vs) ∧ Hid (Below w3'.heap.size w7 wr)) (fun v _ => t.length - (intOf v).toNat)
      case atStart => exact ⟨0, rfl, Nat.zero_le _, HMW7, Lib.hid (Below.refl _ _)⟩
      case round =>
        obtain ⟨i, rfl, hi, HM, HB⟩ := hrel
        by_cases hlt : i < t.length
        · have hvl : i < vs.length := by rw [HvL.out]; exact hlt
          have gx := List.getElem?_eq_getElem hvl
          have hxm := List.getElem_mem hvl
          generalize vs[i] = x at *
          have hrow := HM.out.row
          rcases hrow with ⟨e, e2⟩ | ⟨g, cap, cs1, e, hbg, hg, hcells⟩
          · exfalso
            rw [e2] at hvl
            simp at hvl
          obtain ⟨q1, q2⟩ := hcells i x gx
          obtain ⟨y, q2⟩ := Option.isSome_iff_exists.1 q2
          obtain rfl : D = some ⟨g, 0, none⟩ := (Value.slice.inj e).1
          have f0 : wr.cell? ⟨g, i * 3, none⟩ = some y := by rw [cell_of_row0 hg]; exact q2
          have fz : wr.frozen? ⟨g, i * 3, none⟩ = false := frozen_of_row wr _ _ _ _ hg
          have HM1 := Lib.hid (HM.out.setKind i (.int .i64 99))
          have hg1 := heap_setCell_same wr g (i * 3) _ _ (.int .i64 99) hg
          have HB1 := Lib.hid (HB.out.setCell (p := ⟨g, i * 3, none⟩) hbg (.int .i64 99))
          have f2 : (wr.setCell ⟨g, i * 3, none⟩ (.int .i64 99)).cell? ⟨g, i * 3 + 2, none⟩ = some x := by
            rw [cell_of_row0 hg1, Array.getElem?_setIfInBounds_ne (by omega)]
            exact q1
          have hx := HM1.out.kids x hxm
          clear q1 q2 hcells gx hxm e hvl
          generalize hW1 : wr.setCell ⟨g, i * 3, none⟩ (.int .i64 99) = W1 at *
          rcases hx with rfl | ⟨g2, n2, cap2, cs2, rfl, hb2, hg2, hn2⟩
          · go_wp2_with fail
            go_roundw
            case rel => exact ⟨i + 1, by go_num, by omega, HM1, HB1⟩
            case measure => simp [intOf]; omega
          · by_cases h0 : 0 < n2
            · obtain ⟨y2, hy2⟩ := Option.isSome_iff_exists.1 (hn2 h0)
              have f3 : W1.cell? ⟨g2, 0, none⟩ = some y2 := by rw [cell_of_row0 hg2]; exact hy2
              have fz3 : W1.frozen? ⟨g2, 0, none⟩ = false := frozen_of_row W1 _ _ _ _ hg2
              have HM2 := Lib.hid (HM1.out.setKid ⟨_, hg2⟩ (.int .i64 99))
              have HB2 := Lib.hid (HB1.out.setCell (p := ⟨g2, 0, none⟩) hb2 (.int .i64 99))
              clear hn2 hy2
              go_wp2_with fail
              go_roundw
              case rel => exact ⟨i + 1, by go_num, by omega, HM2, HB2⟩
              case measure => simp [intOf]; omega
            · obtain rfl : n2 = 0 := by omega
              go_wp2_with fail
              go_roundw
              case rel => exact ⟨i + 1, by go_num, by omega, HM1, HB1⟩
              case measure => simp [intOf]; omega
        · obtain rfl : i = t.length := by omega
          have HW3 : Hid (Below w3'.heap.size w3' wr) := Lib.hid (HW7.out.trans HB.out)
          clear HB HM HMW7 HW7
          go_wp2_with fail
          go_loopw [17] (fun v wr => ∃ (i : Nat), v = .int .i64 i ∧ i ≤ l.length ∧ Hid (Below w3'.heap.size w3' wr)) (fun v _ => l.length - (intOf v).toNat)
          case atStart => exact ⟨0, rfl, Nat.zero_le _, HW3⟩
          case round =>
            obtain ⟨i, rfl, hi, HB⟩ := hrel
            by_cases hlt : i < l.length
            · have g := List.getElem?_eq_getElem hlt
              obtain ⟨st1, st2⟩ := HSm.out.2 _ (List.getElem_mem hlt)
              have hl4 := HSm.out.1
              obtain ⟨b, off, rfl, E1, c1, f1, hE1, zE1⟩ := HC4.out i _ g
              obtain ⟨b', off', rfl, E2, c2, f2, hE2, zE2⟩ := HC4b.out i _ g
              have g1 := (HB.out.cell (p := ⟨b, _, none⟩) (cell_lt f1)).trans f1
              have g2 := (HB.out.cell (p := ⟨b', _, none⟩) (cell_lt f2)).trans f2
              generalize l[i] = x at *
              have HSa := Lib.hid (refSameC x E1 E2 c1 c2 wr.drew (by omega) (hE1.below HB.out : HoldsN wr E1 x) (hE2.below HB.out : HoldsN wr E2 x) st2)
              clear g st2 hE1 hE2 f1 f2
              go_wp2_with fail
              go_region_with (go_at_call 19; refine HSa.out.mono ?_; rintro e w8 ⟨rfl, hb8⟩)
              all_goals (have HB8 := Lib.hid (HB.out.drew.trans (hb8.mono HB.out.size)))
              all_goals (go_wp2_with fail)
              all_goals go_roundw
              all_goals first
              | (case rel => exact ⟨i + 1, by go_num, by omega, HB8⟩)
              | skip
              all_goals (simp [intOf]; omega)
            · obtain rfl : i = l.length := by omega
              have HF := Lib.hid (B3.out.trans (HB.out.mono B3.out.size))
              rcases hcode with rfl | ⟨e1, e2, ht0⟩
              · rcases hkc with rfl | ⟨e3, e4, hm0⟩
                · go_wp2_with fail
                  go_ret
                  exact ⟨rfl, HF.out⟩
                · go_wp2_with fail
                  go_ret
                  exact ⟨rfl, HF.out⟩
              · rcases hkc with rfl | ⟨e3, e4, hm0⟩
                · go_wp2_with fail
                  go_ret
                  exact ⟨rfl, HF.out⟩
                · go_wp2_with fail
                  go_ret
                  exact ⟨rfl, HF.out⟩
end Go.Proofs.YtbcgdkhkljeomaaDoor
