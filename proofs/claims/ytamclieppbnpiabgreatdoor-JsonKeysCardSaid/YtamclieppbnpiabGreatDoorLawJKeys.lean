/-
  The law JsonKeys: true.
-/
import Derived.Test.YtamclieppbnpiabGreatDoorProg
import Derived.Test.YtamclieppbnpiabGreatDoorReg
import Derived.WalkKit
import Derived.WalkSpells
import Derived.WalkLawsBesides
import Derived.Lib.Hide
import Derived.Lib.MinMax
import Derived.Deep.QuietTactic
import Derived.BigQuiet
import Derived.OwnWalk
import Derived.Deep.AppendLies
import Derived.KernelRfl
import Derived.Test.YtamclieppbnpiabGreatDoorJtE
import Derived.Test.YtamclieppbnpiabGreatDoorJtF
import Derived.Test.YtamclieppbnpiabGreatDoorJtG
set_option linter.unusedSimpArgs false
set_option linter.unusedVariables false
namespace Go.Proofs.YtamclieppbnpiabGreatDoor
open Go Go.RowKit Go.Maps

/-- What an object's making has, operation by operation. -/
def ClauseK (n0 : Nat) (s k : ByteArray) (cs : Array Value) (L : Nat → Prop) (vs : Nat → Value) (w : World) : Nat → Prop
  | 0 => vs 0 = .string s
  | 1 => vs 1 = .string k
  | 2 => ∃ g, vs 2 = .slice (some ⟨g, 0, none⟩) 1 1 ∧ n0 ≤ g ∧ w.heap[g]? = some (.cells #[.string k] sK (0, 0))
  | 3 => vs 3 = .agg cs
  | 4 => ∃ g, vs 4 = .slice (some ⟨g, 0, none⟩) 1 1 ∧ n0 ≤ g ∧ w.heap[g]? = some (.cells cs tJ (0, 0))
  | 5 => L 2 ∧ L 4 ∧ vs 5 = .agg #[.int .i64 5, .bool false, .int .i64 0, .string ⟨#[]⟩, vs 2, vs 4]
  | 6 => ∃ g, vs 6 = .pointer (some ⟨g, 0, none⟩) ∧ n0 ≤ g ∧ w.heap[g]? = some (.cells #[.int .i64 0, .bool false, .int .i64 0, .string ⟨#[]⟩, .slice none 0 0, .slice none 0 0] tJ (0, 0))
  | _ => True
structure RelK (wk : World) (s k : ByteArray) (cs : Array Value) (L : Nat → Prop) (vs : Nat → Value) (w : World) : Prop where
  low : Below wk.heap.size wk w
  cl : ∀ j, L j → ClauseK wk.heap.size s k cs L vs w j
  sep : L 4 → L 6 → ∀ g, vs 6 = .pointer (some ⟨g, 0, none⟩) → vs 4 ≠ .slice (some ⟨g, 0, none⟩) 1 1
theorem RelK.step {wk w w' : World} {s k : ByteArray} {cs : Array Value} {L : Nat → Prop} {vs : Nat → Value} (h : RelK wk s k cs L vs w) {i : Nat} (hi : ¬ L i) {v : Value} (hb : Below w.heap.size w w') (hnew : ClauseK wk.heap.size s k cs (fun j => L j ∨ j = i) (updV vs i v) w' i)
    (h4 : i = 4 → L 6 → ∀ g, vs 6 = .pointer (some ⟨g, 0, none⟩) → v ≠ .slice (some ⟨g, 0, none⟩) 1 1) (h6 : i = 6 → L 4 → ∀ g, v = .pointer (some ⟨g, 0, none⟩) → vs 4 ≠ .slice (some ⟨g, 0, none⟩) 1 1) : RelK wk s k cs (fun j => L j ∨ j = i) (updV vs i v) w' := by
  have ne : ∀ m, L m → m ≠ i := fun m hm e => hi (e ▸ hm)
  have lt : ∀ {b : Nat} {o : Obj}, w.heap[b]? = some o → w'.heap[b]? = some o := fun ho => (hb.block _ (Array.getElem?_eq_some_iff.1 ho).1).trans ho
  refine ⟨h.low.trans (hb.mono h.low.size), fun j hj => ?_, fun g4 g6 g hg => ?_⟩
  · by_cases e : j = i
    · subst e; exact hnew
    · have hL := hj.resolve_right e
      have hc := h.cl j hL
      match j, e, hL, hc with
      | 0, e, _, hc => exact (updV_ne e).trans hc
      | 1, e, _, hc => exact (updV_ne e).trans hc
      | 2, e, _, ⟨g, h1, h2, h3⟩ => exact ⟨g, (updV_ne e).trans h1, h2, lt h3⟩
      | 3, e, _, hc => exact (updV_ne e).trans hc
      | 4, e, _, ⟨g, h1, h2, h3⟩ => exact ⟨g, (updV_ne e).trans h1, h2, lt h3⟩
      | 5, e, _, ⟨h1, h2, h3⟩ =>
        refine ⟨.inl h1, .inl h2, ?_⟩
        rw [updV_ne e, updV_ne (ne 2 h1), updV_ne (ne 4 h2)]
        exact h3
      | 6, e, _, ⟨g, h1, h2, h3⟩ => exact ⟨g, (updV_ne e).trans h1, h2, lt h3⟩
      | _ + 7, _, _, _ => trivial
  · by_cases e4 : 4 = i
    · subst e4
      rw [updV_ne (by decide)] at hg
      rw [updV_same]
      exact h4 rfl (g6.resolve_right (by decide)) g hg
    · by_cases e6 : 6 = i
      · subst e6
        rw [updV_same] at hg
        rw [updV_ne (by decide)]
        exact h6 rfl (g4.resolve_right (by decide)) g hg
      · rw [updV_ne e6] at hg
        rw [updV_ne e4]
        exact h.sep (g4.resolve_right e4) (g6.resolve_right e6) g hg
theorem one_made {w : World} {k : ByteArray} {x : Js} {cs : List Value} {g2 g4 : Nat} (h2 : w.heap[g2]? = some (.cells #[.string k] sK (0, 0))) (h4 : w.heap[g4]? = some (.cells cs.toArray tJ (0, 0))) (h : JC w x cs) :
    JC w (oneJ k x) [.int .i64 5, .bool false, .int .i64 0, .string ByteArray.empty, .slice (some ⟨g2, 0, none⟩) 1 1, .slice (some ⟨g4, 0, none⟩) 1 1] :=
  JC_iff.2 ⟨some ⟨g2, 0, none⟩, 1, some ⟨g4, 0, none⟩, 1, rfl, fun i y hy => by
    have hi := (List.getElem?_eq_some_iff.1 hy).1
    have h0 : i = 0 := by simp [Js.keys] at hi; omega
    subst h0
    obtain rfl : k = y := by simpa [Js.keys] using hy
    exact ⟨g2, 0, rfl, by simp [World.cell?, h2]⟩, Nat.le_refl _, Nat.le_refl _, fun i y hy => by
    have hi := (List.getElem?_eq_some_iff.1 hy).1
    have h0 : i = 0 := by simp [Js.l] at hi; omega
    subst h0
    obtain rfl : x = y := by simpa [Js.l] using hy
    refine ⟨g4, 0, cs, rfl, fun j u hj => ?_, h⟩
    simp [World.cell?, h4, hj]⟩
theorem beq_dec (a b : ByteArray) : (a.toList == b.toList) = decide (a = b) := by
  by_cases h : a = b
  · rw [bytes_beq_yes h, decide_eq_true h]
  · rw [bytes_beq_no h, decide_eq_false h]
set_option maxRecDepth 100000 in
set_option maxHeartbeats 8000000 in
theorem jsonKeys_any (a : Addr) (x : Js) (cs : List Value) (s t : ByteArray) (w : World) (ho : okJ maxLen x) (hs : s.size ≤ maxLen) (ht : t.size ≤ maxLen) (hJx : JC w x cs) (hW : WJ a w) : Calls Tryz.prog 4 #[.agg cs.toArray, .string s, .string t] w fun e w' => e = .returned (.bool true) ∧ Below w.heap.size w w' := by
  obtain ⟨A0, c0, B0, d0, rfl, -⟩ := JC_iff.1 hJx
  have hb0 := below_new w (.cells #[.int .i64 x.kind, .bool x.yes, .int .i64 x.n, .string x.s, .slice A0 x.keys.length c0, .slice B0 x.l.length d0] tJ)
  have hvx := VarAt.new hJx
  have HS := Lib.hid (shown_any a _ (hW.keep hb0))
  have HW := Lib.hid hW
  have HFx := Lib.hid (fun W cs h => few4_any x ho cs W h)
  have hok := okJ.mono (M := 50) (N := 100) (by omega) _ (few_ok 4 x ho)
  have hszs := headS_size 50 s
  have hls : (headS 50 s).data.toList.length = (headS 50 s).size := Array.length_toList
  have e1 := bs_of (headS 50 s)
  have hoko := one_ok hszs hok
  have HShs := Lib.hid (fun W => short_any s W hs)
  have HSht := Lib.hid (fun W => short_any t W ht)
  have HGs := Lib.hid (fun cs W h D h2 h3 => GetD_any 100 (by omega) (oneJ (headS 50 s) (fewJ 4 x)) hoko (headS 50 s) cs W h D h2 h3)
  have HGt := Lib.hid (fun cs W h D h2 h3 => GetD_any 100 (by omega) (oneJ (headS 50 s) (fewJ 4 x)) hoko (headS 50 t) cs W h D h2 h3)
  rw [one_get, if_pos rfl] at HGs
  rw [one_get] at HGt
  have HQ := Lib.hid (fun W h => Quote_any a (headS 50 s).data.toList W (by omega) h)
  rw [e1] at HQ
  have HRt := Lib.hid (fun W cs h1 h2 => Right_any a 100 (by omega) (fewJ 4 x) hok cs W h1 h2)
  have HRo := Lib.hid (fun W cs h1 h2 => Right_any a 100 (by omega) (oneJ (headS 50 s) (fewJ 4 x)) hoko cs W h1 h2)
  rw [one_right] at HRo
  unfold validB at HRo
  have HM := Lib.hid (fun W cs ds h1 h2 => Same_any 100 (by omega) (fewJ 4 x) (fewJ 4 x) hok hok cs ds W h1 h2)
  rw [sameJ_iff.2 rfl] at HM
  have HB1 := Lib.hid hb0
  have HW1 := Lib.hid (hW.keep hb0)
  have x_1 : Hid (VarAt _ w.heap.size x A0 c0 B0 d0) := Lib.hid hvx
  have HE : Hid (((headS 50 s).toList == (headS 50 t).toList) = decide (headS 50 s = headS 50 t)) := Lib.hid (beq_dec _ _)
  obtain ⟨O, hO⟩ : ∃ O, O = (if headS 50 s = headS 50 t then some (fewJ 4 x) else none) := ⟨_, rfl⟩
  have HO : Hid (O.isSome = decide (headS 50 s = headS 50 t)) := Lib.hid (by rw [hO]; by_cases h : headS 50 s = headS 50 t <;> simp [h])
  rw [← hO] at HGt
  obtain ⟨O1, hO1⟩ : ∃ O, O = some (fewJ 4 x) := ⟨_, rfl⟩
  rw [← hO1] at HGs
  have HO1 := Lib.hid hO1
  clear hO hO1 hW hb0 hvx hok hoko hls e1 hszs
  generalize decide (headS 50 s = headS 50 t) = bq at *
  generalize rightJ 64 (fewJ 4 x) = rt at *
  generalize bs (if Lib.validD (headS 50 s).data.toList = true then quoteL (headS 50 s).data.toList else []) = tq at *
  generalize Lib.validD (headS 50 s).data.toList = vd at *
  generalize headS 50 s = k at *
  generalize headS 50 t = m at *
  generalize hF : fewJ 4 x = f at *
  clear hF
  obtain ⟨i0, i1, i2, i3, i4, i5⟩ := six_at x_1.out.row
  go_enter Tryz.func4, Tryz.ntmps4
  go_wp2_with fail
  generalize w.alloc (.cells #[.int .i64 x.kind, .bool x.yes, .int .i64 x.n, .string x.s, .slice A0 x.keys.length c0, .slice B0 x.l.length d0] tJ) = W0 at *
  refine (HS.out).mono ?_
  rintro e w1 ⟨rfl, hb⟩
  have HB2 := Lib.hid (HB1.out.trans ((hb).mono HB1.out.size))
  have HW2 := Lib.hid (HW1.out.keep hb)
  have x_2 := Lib.hid (x_1.out.keep hb)
  clear hb
  obtain ⟨x2c0, x2c1, x2c2, x2c3, x2c4, x2c5⟩ := six_at x_2.out.row
  go_wp2_with fail
  refine (HFx.out _ _ x_2.out.jc).mono ?_
  rintro e w2 ⟨hf, hb⟩
  obtain ⟨A1, c1, B1, d1, rfl, hJ⟩ := hf.six
  have hBn := HB2.out.trans (hb.mono HB2.out.size)
  have hrow := (hb.block _ x_2.out.lt).trans x_2.out.row
  obtain ⟨w2s, hw2s⟩ : ∃ W', W' = ((((((w2.setCell ⟨w.heap.size, 0, none⟩ (.int .i64 f.kind)).setCell ⟨w.heap.size, 1, none⟩ (.bool f.yes)).setCell ⟨w.heap.size, 2, none⟩ (.int .i64 f.n)).setCell ⟨w.heap.size, 3, none⟩ (.string f.s)).setCell ⟨w.heap.size, 4, none⟩ (.slice A1 f.keys.length c1)).setCell ⟨w.heap.size, 5, none⟩ (.slice B1 f.l.length d1)) := ⟨_, rfl⟩
  obtain ⟨q1, q2, q3, q4⟩ := few_store hBn hrow (by omega) hJ x_2.out.lt w2s hw2s
  have HB3 := Lib.hid q1
  have HW3 := Lib.hid (HW.out.keep q1)
  have x_3 := Lib.hid q2
  have JDx_3 := Lib.hid (hJ.stay (fun k hk => q4 k (by have := hk.1; have := x_2.out.lt; omega)))
  obtain ⟨r0, r1, r2, r3, r4, r5⟩ := six_at hrow
  have rz := fun j => frozen_of_row w2 _ j _ _ hrow
  have rl := (Array.getElem?_eq_some_iff.1 hrow).1
  have hsw2s := q3
  clear hf hb hJ hBn hrow q1 q2 q3 q4
  go_upto_region 3 with fail
  rw [← hw2s]
  clear hw2s r0 r1 r2 r3 r4 r5 rz rl
  have hk6 := six_at x_3.out.row
  have hkJ := x_3.out.jc
  go_cut [8] from 8 to 23 (fun p wx => ∃ (g : Nat) (A4 : Option Addr) (c4 : Nat) (B4 : Option Addr) (d4 : Nat), p = .pointer (some ⟨g, 0, none⟩) ∧ VarAt wx g (oneJ k f) A4 c4 B4 d4 ∧ Below w2s.heap.size w2s wx)
  case first =>
    refine wp_region_rel (n := 7) (RelK w2s s k #[.int .i64 f.kind, .bool f.yes, .int .i64 f.n, .string f.s, .slice A1 f.keys.length c1, .slice B1 f.l.length d1]) (by kernel_rfl) (by kernel_rfl) (by kernel_rfl) (fun vs => ⟨below_drew _, fun j h => h.elim, fun h => h.elim⟩) (fun i o hi ho => ?_) (fun o ho => by simp only [List.getElem?_toArray, List.getElem?_cons_zero, List.getElem?_cons_succ, Option.some.injEq] at ho; subst ho; rfl) (fun o ho vs w9 hG => ?_)
    · match i, hi with

      | 0, _ =>
        simp only [List.getElem?_toArray, List.getElem?_cons_zero, List.getElem?_cons_succ, Option.some.injEq] at ho
        subst ho
        intro L vs w9 hG hn hd
        refine ⟨rfl, fun K Q hK => ?_⟩
        simp only [preA, List.getElem?_toArray, List.getElem?_cons_zero, List.getElem?_cons_succ, Act.put, List.setIfInBounds_toArray, List.set_cons_zero, List.set_cons_succ] at hK ⊢
        go_wp2_with fail
        exact hG.step hn (Below.refl _ _) (updV_same _ _ _) (fun h => absurd h (by decide)) (fun h => absurd h (by decide))
      | 1, _ =>
        simp only [List.getElem?_toArray, List.getElem?_cons_zero, List.getElem?_cons_succ, Option.some.injEq] at ho
        subst ho
        intro L vs w9 hG hn hd
        refine ⟨rfl, fun K Q hK => ?_⟩
        simp only [preA, List.getElem?_toArray, List.getElem?_cons_zero, List.getElem?_cons_succ, Act.put, List.setIfInBounds_toArray, List.set_cons_zero, List.set_cons_succ] at hK ⊢
        have e0 : vs 0 = .string s := hG.cl 0 (hd ⟨0, .data⟩ (by simp) rfl)
        simp only [e0] at hK ⊢
        go_wp2_with fail
        refine (HShs.out _).mono ?_
        rintro e w10 ⟨rfl, hw⟩
        subst w10
        refine hK _ _ ?_
        exact hG.step hn (Below.refl _ _) (updV_same _ _ _) (fun h => absurd h (by decide)) (fun h => absurd h (by decide))
      | 2, _ =>
        simp only [List.getElem?_toArray, List.getElem?_cons_zero, List.getElem?_cons_succ, Option.some.injEq] at ho
        subst ho
        intro L vs w9 hG hn hd
        refine ⟨rfl, fun K Q hK => ?_⟩
        simp only [preA, List.getElem?_toArray, List.getElem?_cons_zero, List.getElem?_cons_succ, Act.put, List.setIfInBounds_toArray, List.set_cons_zero, List.set_cons_succ] at hK ⊢
        have e1 : vs 1 = .string k := hG.cl 1 (hd ⟨1, .data⟩ (by simp) rfl)
        simp only [e1] at hK ⊢
        go_wp2_with fail
        exact hG.step hn (below_new _ _) ⟨w9.heap.size, updV_same _ _ _, hG.low.size, heap_alloc_new _ _⟩ (fun h => absurd h (by decide)) (fun h => absurd h (by decide))
      | 3, _ =>
        simp only [List.getElem?_toArray, List.getElem?_cons_zero, List.getElem?_cons_succ, Option.some.injEq] at ho
        subst ho
        intro L vs w9 hG hn hd
        refine ⟨rfl, fun K Q hK => ?_⟩
        simp only [preA, List.getElem?_toArray, List.getElem?_cons_zero, List.getElem?_cons_succ, Act.put, List.setIfInBounds_toArray, List.set_cons_zero, List.set_cons_succ] at hK ⊢
        obtain ⟨y0, y1, y2, y3, y4, y5⟩ := six_at (x_3.out.keep hG.low).row
        go_wp2_with fail
        exact hG.step hn (Below.refl _ _) (updV_same _ _ _) (fun h => absurd h (by decide)) (fun h => absurd h (by decide))
      | 4, _ =>
        simp only [List.getElem?_toArray, List.getElem?_cons_zero, List.getElem?_cons_succ, Option.some.injEq] at ho
        subst ho
        intro L vs w9 hG hn hd
        refine ⟨rfl, fun K Q hK => ?_⟩
        simp only [preA, List.getElem?_toArray, List.getElem?_cons_zero, List.getElem?_cons_succ, Act.put, List.setIfInBounds_toArray, List.set_cons_zero, List.set_cons_succ] at hK ⊢
        have e3 : vs 3 = .agg #[.int .i64 f.kind, .bool f.yes, .int .i64 f.n, .string f.s, .slice A1 f.keys.length c1, .slice B1 f.l.length d1] := hG.cl 3 (hd ⟨3, .data⟩ (by simp) rfl)
        simp only [e3] at hK ⊢
        go_wp2_with fail
        exact hG.step hn (below_new _ _) ⟨w9.heap.size, updV_same _ _ _, hG.low.size, heap_alloc_new _ _⟩ (fun _ h6 g hg e => by
          obtain ⟨g', e1, _, e2⟩ := hG.cl 6 h6
          have l2 := (Array.getElem?_eq_some_iff.1 e2).1
          rw [hg] at e1
          cases e1
          cases e
          exact absurd l2 (by omega)) (fun h => absurd h (by decide))
      | 5, _ =>
        simp only [List.getElem?_toArray, List.getElem?_cons_zero, List.getElem?_cons_succ, Option.some.injEq] at ho
        subst ho
        intro L vs w9 hG hn hd
        refine ⟨rfl, fun K Q hK => ?_⟩
        simp only [preA, List.getElem?_toArray, List.getElem?_cons_zero, List.getElem?_cons_succ, Act.put, List.setIfInBounds_toArray, List.set_cons_zero, List.set_cons_succ] at hK ⊢
        obtain ⟨g2, e2, -, -⟩ := hG.cl 2 (hd ⟨2, .data⟩ (by simp) rfl)
        obtain ⟨g4, e4, -, -⟩ := hG.cl 4 (hd ⟨4, .data⟩ (by simp) rfl)
        have f2 := (hd ⟨2, .data⟩ (by simp) rfl)
        have f4 := (hd ⟨4, .data⟩ (by simp) rfl)
        simp only [e2, e4] at hK ⊢
        go_wp2_with fail
        exact hG.step hn (Below.refl _ _) ⟨.inl f2, .inl f4, by rw [updV_same, updV_ne (by decide), updV_ne (by decide), e2, e4]⟩ (fun h => absurd h (by decide)) (fun h => absurd h (by decide))
      | 6, _ =>
        simp only [List.getElem?_toArray, List.getElem?_cons_zero, List.getElem?_cons_succ, Option.some.injEq] at ho
        subst ho
        intro L vs w9 hG hn hd
        refine ⟨rfl, fun K Q hK => ?_⟩
        simp only [preA, List.getElem?_toArray, List.getElem?_cons_zero, List.getElem?_cons_succ, Act.put, List.setIfInBounds_toArray, List.set_cons_zero, List.set_cons_succ] at hK ⊢
        go_wp2_with fail
        exact hG.step hn (below_new _ _) ⟨w9.heap.size, updV_same _ _ _, hG.low.size, heap_alloc_new _ _⟩ (fun h => absurd h (by decide)) (fun _ h4 g hg e => by
          obtain ⟨g', e1, _, e2⟩ := hG.cl 4 h4
          have l2 := (Array.getElem?_eq_some_iff.1 e2).1
          rw [e] at e1
          cases e1
          cases hg
          exact absurd l2 (by omega))
    · simp only [List.getElem?_toArray, List.getElem?_cons_zero, List.getElem?_cons_succ, Option.some.injEq] at ho
      subst ho
      generalize hT : preA _ _ _ 7 = T9
      obtain ⟨g2, e2, l2, r2⟩ := hG.cl 2 (show 2 < 7 by decide)
      obtain ⟨g4, e4, l4, r4⟩ := hG.cl 4 (show 4 < 7 by decide)
      obtain ⟨-, -, e5⟩ := hG.cl 5 (show 5 < 7 by decide)
      obtain ⟨g, e6, l6, r6⟩ := hG.cl 6 (show 6 < 7 by decide)
      have n4 := hG.sep (show 4 < 7 by decide) (show 6 < 7 by decide) g e6
      rw [e2, e4] at e5
      have n42 : g4 ≠ g := fun e => n4 (by rw [e4, e])
      have n2 : g2 ≠ g := fun e => by
        have h := congrArg (fun o : Option Obj => match o with | some (.cells c _ _) => c.size | _ => 0) (r6.symm.trans (e ▸ r2))
        simp at h
      have hbx := below6 (m := w2s.heap.size) hG.low (R := g) l6 (.int .i64 5) (.bool false) (.int .i64 0) (.string ⟨#[]⟩) (.slice (some ⟨g2, 0, none⟩) 1 1) (.slice (some ⟨g4, 0, none⟩) 1 1)
      have hV : VarAt ((((((w9.setCell ⟨g, 0, none⟩ (.int .i64 5)).setCell ⟨g, 1, none⟩ (.bool false)).setCell ⟨g, 2, none⟩ (.int .i64 0)).setCell ⟨g, 3, none⟩ (.string ⟨#[]⟩)).setCell ⟨g, 4, none⟩ (.slice (some ⟨g2, 0, none⟩) 1 1)).setCell ⟨g, 5, none⟩ (.slice (some ⟨g4, 0, none⟩) 1 1)) g (oneJ k f) (some ⟨g2, 0, none⟩) 1 (some ⟨g4, 0, none⟩) 1 :=
        ⟨set6 r6, one_made ((set6_other n2 _ _ _ _ _ _).trans r2) ((set6_other n42 _ _ _ _ _ _).trans r4) (hkJ.keep hbx)⟩
      obtain ⟨y0, y1, y2, y3, y4, y5⟩ := six_at r6
      have yz := fun j => frozen_of_row w9 _ j _ _ r6
      have yl := (Array.getElem?_eq_some_iff.1 r6).1
      simp only [preA, List.getElem?_toArray, List.getElem?_cons_zero, List.getElem?_cons_succ, Act.put, List.setIfInBounds_toArray, List.set_cons_zero, List.set_cons_succ, e5, e6] at hT
      have HV := Lib.hid hV
      have HBx := Lib.hid hbx
      clear hV hbx n4 n42 n2 r2 r4 e2 e4 e5 e6 hG
      subst hT
      go_wp2_with fail
      go_meet
      exact ⟨g, _, _, _, _, rfl, HV.out, HBx.out⟩
  case rest =>
  obtain ⟨g, A4, c4, B4, d4, rfl, hv, hb⟩ := hcut
  generalize oneJ k f = oo at *
  have HB4 := Lib.hid (HB3.out.trans ((hb).mono HB3.out.size))
  have HW4 := Lib.hid (HW3.out.keep hb)
  have x_4 := Lib.hid (x_3.out.keep hb)
  have o_4 := Lib.hid hv
  clear hb hv hk6 hkJ
  go_upto_region 4 with fail
  have hk6 := six_at o_4.out.row
  have hkL := o_4.out.jc.items
  go_cut [9, 10] from 9 to 30 (fun p ok wx => ItemAt wc O1 p ok wx)
  case first =>
    have hdz : wc.drew.heap.size = wc.heap.size := rfl
    refine wp_region_alloc2 (S := fun w' => w'.cell? ⟨g, 0, none⟩ = some (.int .i64 oo.kind) ∧ w'.cell? ⟨g, 1, none⟩ = some (.bool oo.yes) ∧ w'.cell? ⟨g, 2, none⟩ = some (.int .i64 oo.n) ∧ w'.cell? ⟨g, 3, none⟩ = some (.string oo.s) ∧ w'.cell? ⟨g, 4, none⟩ = some (.slice A4 oo.keys.length c4) ∧ w'.cell? ⟨g, 5, none⟩ = some (.slice B4 oo.l.length d4)) [0, 1] 2 3 7 [4, 5, 6] [8, 9] (by kernel_rfl) (by kernel_rfl) (fun _ _ _ _ _ h => h) hk6 ?_
    simp only [pick, List.filterMap_cons, List.filterMap_nil, List.getElem?_toArray, List.getElem?_cons_zero, List.getElem?_cons_succ]
    repeat (refine wpHead_step (v := ?_) rfl ?_ ?_; rotate_left; (focus (rintro w1 ⟨z0, z1, z2, z3, z4, z5⟩; go_simp; try with_reducible rfl)); simp only [Act.put, List.setIfInBounds_toArray, List.set_cons_zero, List.set_cons_succ])
    refine wpHead_nil ⟨?_, ?_⟩
    · skip
      refine wpTailK_step rfl (fun K hK => ?_)
      go_wp2_with fail
      refine (HShs.out _).mono ?_
      rintro e w9 ⟨rfl, hw⟩
      subst w9
      refine hK _ _ hk6 ?_
      clear hK K
      try simp only [Act.put, List.setIfInBounds_toArray, List.set_cons_zero, List.set_cons_succ]
      refine wpTailK_nil ⟨?_, ?_⟩
      · skip
        have hbw := below_drew wc
        refine wpTailK_step rfl (fun K hK => ?_)
        go_wp2_with fail
        refine (HGs.out _ wc.drew (o_4.out.jc.keep hbw) (fun b => b < wc.heap.size) (fun B d e => by cases e; exact holdsD_of hbw hkL) (fun b hb => Nat.lt_of_lt_of_le hb hbw.size)).mono ?_
        rintro e w2 ⟨hg, hb⟩
        obtain ⟨A9, c9, B9, d9, rfl, hJ9⟩ := hg.six
        have hb2 := hbw.trans (hb.mono hbw.size)
        refine hK _ _ (six_at ((o_4.out.keep hb2).row)) ?_
        clear hK K
        try simp only [Act.put, List.setIfInBounds_toArray, List.set_cons_zero, List.set_cons_succ]
        refine wpTailK_nil ?_
        repeat (refine wpHead_step (v := ?_) rfl ?_ ?_; rotate_left; (focus (rintro w1 ⟨z0, z1, z2, z3, z4, z5⟩; go_simp; try with_reducible rfl)); simp only [Act.put, List.setIfInBounds_toArray, List.set_cons_zero, List.set_cons_succ])
        refine wpHead_nil ?_
        have hz2 := hb2.trans ((below_new w2 (.cells #[.int .i64 0, .bool false, .int .i64 0, .string ⟨#[]⟩, .slice none 0 0, .slice none 0 0] tJ)).mono hb2.size)
        have hz3 := hb2.trans ((below_new w2 (.cells #[.int .i64 (O1.getD noJs).kind, .bool (O1.getD noJs).yes, .int .i64 (O1.getD noJs).n, .string (O1.getD noJs).s, .slice A9 (O1.getD noJs).keys.length c9, .slice B9 (O1.getD noJs).l.length d9] tJ)).mono hb2.size)
        refine wpTail_step rfl (fun K hK => ?_)
        go_wp2_with fail
        refine hK _ _ (six_at ((o_4.out.keep hz2).row)) ?_
        clear hK K
        try simp only [Act.put, List.setIfInBounds_toArray, List.set_cons_zero, List.set_cons_succ]
        refine wpTail_step rfl (fun K hK => ?_)
        go_wp2_with fail
        refine hK _ _ (six_at ((o_4.out.keep hz3).row)) ?_
        clear hK K
        try simp only [Act.put, List.setIfInBounds_toArray, List.set_cons_zero, List.set_cons_succ]
        refine wpTail_step rfl (fun K hK => ?_)
        go_wp2_with fail
        refine hK _ _ (six_at ((o_4.out.keep hz3).row)) ?_
        clear hK K
        try simp only [Act.put, List.setIfInBounds_toArray, List.set_cons_zero, List.set_cons_succ]
        refine wpTail_nil ?_
        go_wp2_with fail
        go_meet
        exact item_new hb2 hJ9
      · skip
        have hbw := (below_drew wc).trans ((below_new wc.drew (.cells #[.int .i64 0, .bool false, .int .i64 0, .string ⟨#[]⟩, .slice none 0 0, .slice none 0 0] tJ)).mono (Nat.le_refl _))
        have hr0 := heap_alloc_new wc.drew (.cells #[.int .i64 0, .bool false, .int .i64 0, .string ⟨#[]⟩, .slice none 0 0, .slice none 0 0] tJ)
        have hzw : (wc.drew.alloc (.cells #[.int .i64 0, .bool false, .int .i64 0, .string ⟨#[]⟩, .slice none 0 0, .slice none 0 0] tJ)).heap.size = wc.heap.size + 1 := by simp
        refine wpTailK_step rfl (fun K hK => ?_)
        go_wp2_with fail
        refine hK _ _ (six_at ((o_4.out.keep hbw).row)) ?_
        clear hK K
        try simp only [Act.put, List.setIfInBounds_toArray, List.set_cons_zero, List.set_cons_succ]
        refine wpTailK_step rfl (fun K hK => ?_)
        go_wp2_with fail
        refine (HGs.out _ (wc.drew.alloc (.cells #[.int .i64 0, .bool false, .int .i64 0, .string ⟨#[]⟩, .slice none 0 0, .slice none 0 0] tJ)) (o_4.out.jc.keep hbw) (fun b => b < wc.heap.size) (fun B d e => by cases e; exact holdsD_of hbw hkL) (fun b hb => Nat.lt_of_lt_of_le hb hbw.size)).mono ?_
        rintro e w2 ⟨hg, hb⟩
        obtain ⟨A9, c9, B9, d9, rfl, hJ9⟩ := hg.six
        have hb2 := hbw.trans (hb.mono hbw.size)
        refine hK _ _ (six_at ((o_4.out.keep hb2).row)) ?_
        clear hK K
        try simp only [Act.put, List.setIfInBounds_toArray, List.set_cons_zero, List.set_cons_succ]
        refine wpTailK_nil ?_
        repeat (refine wpHead_step (v := ?_) rfl ?_ ?_; rotate_left; (focus (rintro w1 ⟨z0, z1, z2, z3, z4, z5⟩; go_simp; try with_reducible rfl)); simp only [Act.put, List.setIfInBounds_toArray, List.set_cons_zero, List.set_cons_succ])
        refine wpHead_nil ?_
        have hr2 : w2.heap[wc.heap.size]? = _ := (hb.block wc.heap.size (by rw [hzw]; omega)).trans hr0
        have hI := item_old (o := O1) (A := A9) (c := c9) (B := B9) (d := d9) hb2 hr2 (Nat.le_refl _) hJ9
        have hz3 := below6 (m := wc.heap.size) hb2 (R := wc.heap.size) (Nat.le_refl _) (.int .i64 (O1.getD noJs).kind) (.bool (O1.getD noJs).yes) (.int .i64 (O1.getD noJs).n) (.string (O1.getD noJs).s) (.slice A9 (O1.getD noJs).keys.length c9) (.slice B9 (O1.getD noJs).l.length d9)
        obtain ⟨t0, t1, t2, t3, t4, t5⟩ := six_at hr2
        have tz := fun j => frozen_of_row w2 _ j _ _ hr2
        have tl := (Array.getElem?_eq_some_iff.1 hr2).1
        refine wpTail_step rfl (fun K hK => ?_)
        go_wp2_with fail
        refine hK _ _ (six_at ((o_4.out.keep hz3).row)) ?_
        clear hK K
        try simp only [Act.put, List.setIfInBounds_toArray, List.set_cons_zero, List.set_cons_succ]
        refine wpTail_step rfl (fun K hK => ?_)
        go_wp2_with fail
        refine hK _ _ (six_at ((o_4.out.keep hz3).row)) ?_
        clear hK K
        try simp only [Act.put, List.setIfInBounds_toArray, List.set_cons_zero, List.set_cons_succ]
        refine wpTail_nil ?_
        go_wp2_with fail
        go_meet
        exact hI
    · skip
      have hbw := (below_drew wc).trans ((below_new wc.drew (.cells #[.int .i64 0, .bool false, .int .i64 0, .string ⟨#[]⟩, .slice none 0 0, .slice none 0 0] tJ)).mono (Nat.le_refl _))
      have hr0 := heap_alloc_new wc.drew (.cells #[.int .i64 0, .bool false, .int .i64 0, .string ⟨#[]⟩, .slice none 0 0, .slice none 0 0] tJ)
      have hzw : (wc.drew.alloc (.cells #[.int .i64 0, .bool false, .int .i64 0, .string ⟨#[]⟩, .slice none 0 0, .slice none 0 0] tJ)).heap.size = wc.heap.size + 1 := by simp
      refine wpTailK_step rfl (fun K hK => ?_)
      go_wp2_with fail
      refine hK _ _ (six_at ((o_4.out.keep hbw).row)) ?_
      clear hK K
      try simp only [Act.put, List.setIfInBounds_toArray, List.set_cons_zero, List.set_cons_succ]
      refine wpTailK_step rfl (fun K hK => ?_)
      go_wp2_with fail
      refine (HShs.out _).mono ?_
      rintro e w9 ⟨rfl, hw⟩
      subst w9
      refine hK _ _ (six_at ((o_4.out.keep hbw).row)) ?_
      clear hK K
      try simp only [Act.put, List.setIfInBounds_toArray, List.set_cons_zero, List.set_cons_succ]
      refine wpTailK_step rfl (fun K hK => ?_)
      go_wp2_with fail
      refine (HGs.out _ (wc.drew.alloc (.cells #[.int .i64 0, .bool false, .int .i64 0, .string ⟨#[]⟩, .slice none 0 0, .slice none 0 0] tJ)) (o_4.out.jc.keep hbw) (fun b => b < wc.heap.size) (fun B d e => by cases e; exact holdsD_of hbw hkL) (fun b hb => Nat.lt_of_lt_of_le hb hbw.size)).mono ?_
      rintro e w2 ⟨hg, hb⟩
      obtain ⟨A9, c9, B9, d9, rfl, hJ9⟩ := hg.six
      have hb2 := hbw.trans (hb.mono hbw.size)
      refine hK _ _ (six_at ((o_4.out.keep hb2).row)) ?_
      clear hK K
      try simp only [Act.put, List.setIfInBounds_toArray, List.set_cons_zero, List.set_cons_succ]
      refine wpTailK_nil ?_
      repeat (refine wpHead_step (v := ?_) rfl ?_ ?_; rotate_left; (focus (rintro w1 ⟨z0, z1, z2, z3, z4, z5⟩; go_simp; try with_reducible rfl)); simp only [Act.put, List.setIfInBounds_toArray, List.set_cons_zero, List.set_cons_succ])
      refine wpHead_nil ?_
      have hr2 : w2.heap[wc.heap.size]? = _ := (hb.block wc.heap.size (by rw [hzw]; omega)).trans hr0
      have hI := item_old (o := O1) (A := A9) (c := c9) (B := B9) (d := d9) hb2 hr2 (Nat.le_refl _) hJ9
      have hz3 := below6 (m := wc.heap.size) hb2 (R := wc.heap.size) (Nat.le_refl _) (.int .i64 (O1.getD noJs).kind) (.bool (O1.getD noJs).yes) (.int .i64 (O1.getD noJs).n) (.string (O1.getD noJs).s) (.slice A9 (O1.getD noJs).keys.length c9) (.slice B9 (O1.getD noJs).l.length d9)
      obtain ⟨t0, t1, t2, t3, t4, t5⟩ := six_at hr2
      have tz := fun j => frozen_of_row w2 _ j _ _ hr2
      have tl := (Array.getElem?_eq_some_iff.1 hr2).1
      refine wpTail_step rfl (fun K hK => ?_)
      go_wp2_with fail
      refine hK _ _ (six_at ((o_4.out.keep hz3).row)) ?_
      clear hK K
      try simp only [Act.put, List.setIfInBounds_toArray, List.set_cons_zero, List.set_cons_succ]
      refine wpTail_step rfl (fun K hK => ?_)
      go_wp2_with fail
      refine hK _ _ (six_at ((o_4.out.keep hz3).row)) ?_
      clear hK K
      try simp only [Act.put, List.setIfInBounds_toArray, List.set_cons_zero, List.set_cons_succ]
      refine wpTail_nil ?_
      go_wp2_with fail
      go_meet
      exact hI
  case rest =>
  obtain ⟨bk5, A5, c5, B5, d5, rfl, rfl, hv, hb⟩ := hcut

  have HB5 := Lib.hid (HB4.out.trans ((hb).mono HB4.out.size))
  have HW5 := Lib.hid (HW4.out.keep hb)
  have x_5 := Lib.hid (x_4.out.keep hb)
  have o_5 := Lib.hid (o_4.out.keep hb)
  have p_5 := Lib.hid hv
  clear hb hv hk6 hkL
  have hO1 := HO1.out
  subst hO1
  have p_5 : Hid (VarAt wc bk5 f A5 c5 B5 d5) := Lib.hid p_5.out
  go_upto_region 5 with fail
  have hk6 := six_at o_5.out.row
  have hkL := o_5.out.jc.items
  go_cut [11, 12] from 11 to 37 (fun p ok wx => ItemAt wc O p ok wx)
  case first =>
    have hdz : wc.drew.heap.size = wc.heap.size := rfl
    refine wp_region_alloc2 (S := fun w' => w'.cell? ⟨g, 0, none⟩ = some (.int .i64 oo.kind) ∧ w'.cell? ⟨g, 1, none⟩ = some (.bool oo.yes) ∧ w'.cell? ⟨g, 2, none⟩ = some (.int .i64 oo.n) ∧ w'.cell? ⟨g, 3, none⟩ = some (.string oo.s) ∧ w'.cell? ⟨g, 4, none⟩ = some (.slice A4 oo.keys.length c4) ∧ w'.cell? ⟨g, 5, none⟩ = some (.slice B4 oo.l.length d4)) [0, 1] 2 3 7 [4, 5, 6] [8, 9] (by kernel_rfl) (by kernel_rfl) (fun _ _ _ _ _ h => h) hk6 ?_
    simp only [pick, List.filterMap_cons, List.filterMap_nil, List.getElem?_toArray, List.getElem?_cons_zero, List.getElem?_cons_succ]
    repeat (refine wpHead_step (v := ?_) rfl ?_ ?_; rotate_left; (focus (rintro w1 ⟨z0, z1, z2, z3, z4, z5⟩; go_simp; try with_reducible rfl)); simp only [Act.put, List.setIfInBounds_toArray, List.set_cons_zero, List.set_cons_succ])
    refine wpHead_nil ⟨?_, ?_⟩
    · skip
      refine wpTailK_step rfl (fun K hK => ?_)
      go_wp2_with fail
      refine (HSht.out _).mono ?_
      rintro e w9 ⟨rfl, hw⟩
      subst w9
      refine hK _ _ hk6 ?_
      clear hK K
      try simp only [Act.put, List.setIfInBounds_toArray, List.set_cons_zero, List.set_cons_succ]
      refine wpTailK_nil ⟨?_, ?_⟩
      · skip
        have hbw := below_drew wc
        refine wpTailK_step rfl (fun K hK => ?_)
        go_wp2_with fail
        refine (HGt.out _ wc.drew (o_5.out.jc.keep hbw) (fun b => b < wc.heap.size) (fun B d e => by cases e; exact holdsD_of hbw hkL) (fun b hb => Nat.lt_of_lt_of_le hb hbw.size)).mono ?_
        rintro e w2 ⟨hg, hb⟩
        obtain ⟨A9, c9, B9, d9, rfl, hJ9⟩ := hg.six
        have hb2 := hbw.trans (hb.mono hbw.size)
        refine hK _ _ (six_at ((o_5.out.keep hb2).row)) ?_
        clear hK K
        try simp only [Act.put, List.setIfInBounds_toArray, List.set_cons_zero, List.set_cons_succ]
        refine wpTailK_nil ?_
        repeat (refine wpHead_step (v := ?_) rfl ?_ ?_; rotate_left; (focus (rintro w1 ⟨z0, z1, z2, z3, z4, z5⟩; go_simp; try with_reducible rfl)); simp only [Act.put, List.setIfInBounds_toArray, List.set_cons_zero, List.set_cons_succ])
        refine wpHead_nil ?_
        have hz2 := hb2.trans ((below_new w2 (.cells #[.int .i64 0, .bool false, .int .i64 0, .string ⟨#[]⟩, .slice none 0 0, .slice none 0 0] tJ)).mono hb2.size)
        have hz3 := hb2.trans ((below_new w2 (.cells #[.int .i64 (O.getD noJs).kind, .bool (O.getD noJs).yes, .int .i64 (O.getD noJs).n, .string (O.getD noJs).s, .slice A9 (O.getD noJs).keys.length c9, .slice B9 (O.getD noJs).l.length d9] tJ)).mono hb2.size)
        refine wpTail_step rfl (fun K hK => ?_)
        go_wp2_with fail
        refine hK _ _ (six_at ((o_5.out.keep hz2).row)) ?_
        clear hK K
        try simp only [Act.put, List.setIfInBounds_toArray, List.set_cons_zero, List.set_cons_succ]
        refine wpTail_step rfl (fun K hK => ?_)
        go_wp2_with fail
        refine hK _ _ (six_at ((o_5.out.keep hz3).row)) ?_
        clear hK K
        try simp only [Act.put, List.setIfInBounds_toArray, List.set_cons_zero, List.set_cons_succ]
        refine wpTail_step rfl (fun K hK => ?_)
        go_wp2_with fail
        refine hK _ _ (six_at ((o_5.out.keep hz3).row)) ?_
        clear hK K
        try simp only [Act.put, List.setIfInBounds_toArray, List.set_cons_zero, List.set_cons_succ]
        refine wpTail_nil ?_
        go_wp2_with fail
        go_meet
        exact item_new hb2 hJ9
      · skip
        have hbw := (below_drew wc).trans ((below_new wc.drew (.cells #[.int .i64 0, .bool false, .int .i64 0, .string ⟨#[]⟩, .slice none 0 0, .slice none 0 0] tJ)).mono (Nat.le_refl _))
        have hr0 := heap_alloc_new wc.drew (.cells #[.int .i64 0, .bool false, .int .i64 0, .string ⟨#[]⟩, .slice none 0 0, .slice none 0 0] tJ)
        have hzw : (wc.drew.alloc (.cells #[.int .i64 0, .bool false, .int .i64 0, .string ⟨#[]⟩, .slice none 0 0, .slice none 0 0] tJ)).heap.size = wc.heap.size + 1 := by simp
        refine wpTailK_step rfl (fun K hK => ?_)
        go_wp2_with fail
        refine hK _ _ (six_at ((o_5.out.keep hbw).row)) ?_
        clear hK K
        try simp only [Act.put, List.setIfInBounds_toArray, List.set_cons_zero, List.set_cons_succ]
        refine wpTailK_step rfl (fun K hK => ?_)
        go_wp2_with fail
        refine (HGt.out _ (wc.drew.alloc (.cells #[.int .i64 0, .bool false, .int .i64 0, .string ⟨#[]⟩, .slice none 0 0, .slice none 0 0] tJ)) (o_5.out.jc.keep hbw) (fun b => b < wc.heap.size) (fun B d e => by cases e; exact holdsD_of hbw hkL) (fun b hb => Nat.lt_of_lt_of_le hb hbw.size)).mono ?_
        rintro e w2 ⟨hg, hb⟩
        obtain ⟨A9, c9, B9, d9, rfl, hJ9⟩ := hg.six
        have hb2 := hbw.trans (hb.mono hbw.size)
        refine hK _ _ (six_at ((o_5.out.keep hb2).row)) ?_
        clear hK K
        try simp only [Act.put, List.setIfInBounds_toArray, List.set_cons_zero, List.set_cons_succ]
        refine wpTailK_nil ?_
        repeat (refine wpHead_step (v := ?_) rfl ?_ ?_; rotate_left; (focus (rintro w1 ⟨z0, z1, z2, z3, z4, z5⟩; go_simp; try with_reducible rfl)); simp only [Act.put, List.setIfInBounds_toArray, List.set_cons_zero, List.set_cons_succ])
        refine wpHead_nil ?_
        have hr2 : w2.heap[wc.heap.size]? = _ := (hb.block wc.heap.size (by rw [hzw]; omega)).trans hr0
        have hI := item_old (o := O) (A := A9) (c := c9) (B := B9) (d := d9) hb2 hr2 (Nat.le_refl _) hJ9
        have hz3 := below6 (m := wc.heap.size) hb2 (R := wc.heap.size) (Nat.le_refl _) (.int .i64 (O.getD noJs).kind) (.bool (O.getD noJs).yes) (.int .i64 (O.getD noJs).n) (.string (O.getD noJs).s) (.slice A9 (O.getD noJs).keys.length c9) (.slice B9 (O.getD noJs).l.length d9)
        obtain ⟨t0, t1, t2, t3, t4, t5⟩ := six_at hr2
        have tz := fun j => frozen_of_row w2 _ j _ _ hr2
        have tl := (Array.getElem?_eq_some_iff.1 hr2).1
        refine wpTail_step rfl (fun K hK => ?_)
        go_wp2_with fail
        refine hK _ _ (six_at ((o_5.out.keep hz3).row)) ?_
        clear hK K
        try simp only [Act.put, List.setIfInBounds_toArray, List.set_cons_zero, List.set_cons_succ]
        refine wpTail_step rfl (fun K hK => ?_)
        go_wp2_with fail
        refine hK _ _ (six_at ((o_5.out.keep hz3).row)) ?_
        clear hK K
        try simp only [Act.put, List.setIfInBounds_toArray, List.set_cons_zero, List.set_cons_succ]
        refine wpTail_nil ?_
        go_wp2_with fail
        go_meet
        exact hI
    · skip
      have hbw := (below_drew wc).trans ((below_new wc.drew (.cells #[.int .i64 0, .bool false, .int .i64 0, .string ⟨#[]⟩, .slice none 0 0, .slice none 0 0] tJ)).mono (Nat.le_refl _))
      have hr0 := heap_alloc_new wc.drew (.cells #[.int .i64 0, .bool false, .int .i64 0, .string ⟨#[]⟩, .slice none 0 0, .slice none 0 0] tJ)
      have hzw : (wc.drew.alloc (.cells #[.int .i64 0, .bool false, .int .i64 0, .string ⟨#[]⟩, .slice none 0 0, .slice none 0 0] tJ)).heap.size = wc.heap.size + 1 := by simp
      refine wpTailK_step rfl (fun K hK => ?_)
      go_wp2_with fail
      refine hK _ _ (six_at ((o_5.out.keep hbw).row)) ?_
      clear hK K
      try simp only [Act.put, List.setIfInBounds_toArray, List.set_cons_zero, List.set_cons_succ]
      refine wpTailK_step rfl (fun K hK => ?_)
      go_wp2_with fail
      refine (HSht.out _).mono ?_
      rintro e w9 ⟨rfl, hw⟩
      subst w9
      refine hK _ _ (six_at ((o_5.out.keep hbw).row)) ?_
      clear hK K
      try simp only [Act.put, List.setIfInBounds_toArray, List.set_cons_zero, List.set_cons_succ]
      refine wpTailK_step rfl (fun K hK => ?_)
      go_wp2_with fail
      refine (HGt.out _ (wc.drew.alloc (.cells #[.int .i64 0, .bool false, .int .i64 0, .string ⟨#[]⟩, .slice none 0 0, .slice none 0 0] tJ)) (o_5.out.jc.keep hbw) (fun b => b < wc.heap.size) (fun B d e => by cases e; exact holdsD_of hbw hkL) (fun b hb => Nat.lt_of_lt_of_le hb hbw.size)).mono ?_
      rintro e w2 ⟨hg, hb⟩
      obtain ⟨A9, c9, B9, d9, rfl, hJ9⟩ := hg.six
      have hb2 := hbw.trans (hb.mono hbw.size)
      refine hK _ _ (six_at ((o_5.out.keep hb2).row)) ?_
      clear hK K
      try simp only [Act.put, List.setIfInBounds_toArray, List.set_cons_zero, List.set_cons_succ]
      refine wpTailK_nil ?_
      repeat (refine wpHead_step (v := ?_) rfl ?_ ?_; rotate_left; (focus (rintro w1 ⟨z0, z1, z2, z3, z4, z5⟩; go_simp; try with_reducible rfl)); simp only [Act.put, List.setIfInBounds_toArray, List.set_cons_zero, List.set_cons_succ])
      refine wpHead_nil ?_
      have hr2 : w2.heap[wc.heap.size]? = _ := (hb.block wc.heap.size (by rw [hzw]; omega)).trans hr0
      have hI := item_old (o := O) (A := A9) (c := c9) (B := B9) (d := d9) hb2 hr2 (Nat.le_refl _) hJ9
      have hz3 := below6 (m := wc.heap.size) hb2 (R := wc.heap.size) (Nat.le_refl _) (.int .i64 (O.getD noJs).kind) (.bool (O.getD noJs).yes) (.int .i64 (O.getD noJs).n) (.string (O.getD noJs).s) (.slice A9 (O.getD noJs).keys.length c9) (.slice B9 (O.getD noJs).l.length d9)
      obtain ⟨t0, t1, t2, t3, t4, t5⟩ := six_at hr2
      have tz := fun j => frozen_of_row w2 _ j _ _ hr2
      have tl := (Array.getElem?_eq_some_iff.1 hr2).1
      refine wpTail_step rfl (fun K hK => ?_)
      go_wp2_with fail
      refine hK _ _ (six_at ((o_5.out.keep hz3).row)) ?_
      clear hK K
      try simp only [Act.put, List.setIfInBounds_toArray, List.set_cons_zero, List.set_cons_succ]
      refine wpTail_step rfl (fun K hK => ?_)
      go_wp2_with fail
      refine hK _ _ (six_at ((o_5.out.keep hz3).row)) ?_
      clear hK K
      try simp only [Act.put, List.setIfInBounds_toArray, List.set_cons_zero, List.set_cons_succ]
      refine wpTail_nil ?_
      go_wp2_with fail
      go_meet
      exact hI
  case rest =>
  obtain ⟨bk6, A6, c6, B6, d6, rfl, rfl, hv, hb⟩ := hcut

  have HB6 := Lib.hid (HB5.out.trans ((hb).mono HB5.out.size))
  have HW6 := Lib.hid (HW5.out.keep hb)
  have x_6 := Lib.hid (x_5.out.keep hb)
  have o_6 := Lib.hid (o_5.out.keep hb)
  have p_6 := Lib.hid (p_5.out.keep hb)
  have q_6 := Lib.hid hv
  clear hb hv hk6 hkL
  rw [HO.out]
  go_wp2_with fail
  refine (HShs.out _).mono ?_
  rintro e w9 ⟨rfl, hw⟩
  subst w9
  go_wp2_with fail
  refine (HQ.out _ HW6.out).mono ?_
  rintro e w10 ⟨rfl, hb⟩
  have HB7 := Lib.hid (HB6.out.trans ((hb).mono HB6.out.size))
  have HW7 := Lib.hid (HW6.out.keep hb)
  have x_7 := Lib.hid (x_6.out.keep hb)
  have o_7 := Lib.hid (o_6.out.keep hb)
  have p_7 := Lib.hid (p_6.out.keep hb)
  have q_7 := Lib.hid (q_6.out.keep hb)
  clear hb
  cases vd with
  | false =>
    simp only [Bool.false_and] at HRo
    have he := HE.out
    obtain ⟨x7c0, x7c1, x7c2, x7c3, x7c4, x7c5⟩ := six_at x_7.out.row
    obtain ⟨p7c0, p7c1, p7c2, p7c3, p7c4, p7c5⟩ := six_at p_7.out.row
    obtain ⟨o7c0, o7c1, o7c2, o7c3, o7c4, o7c5⟩ := six_at o_7.out.row
    go_wp2_with fail
    refine (HM.out _ _ _ p_7.out.jc x_7.out.jc).mono ?_
    rintro e w11 ⟨rfl, hb⟩
    have HB8 := Lib.hid (HB7.out.trans ((hb).mono HB7.out.size))
    have HW8 := Lib.hid (HW7.out.keep hb)
    have x_8 := Lib.hid (x_7.out.keep hb)
    have o_8 := Lib.hid (o_7.out.keep hb)
    have p_8 := Lib.hid (p_7.out.keep hb)
    have q_8 := Lib.hid (q_7.out.keep hb)
    clear hb
    obtain ⟨x8c0, x8c1, x8c2, x8c3, x8c4, x8c5⟩ := six_at x_8.out.row
    obtain ⟨o8c0, o8c1, o8c2, o8c3, o8c4, o8c5⟩ := six_at o_8.out.row
    go_wp2_with fail
    refine (HShs.out _).mono ?_
    rintro e w12 ⟨rfl, hw⟩
    subst w12
    go_wp2_with fail
    refine (HSht.out _).mono ?_
    rintro e w13 ⟨rfl, hw⟩
    subst w13
    go_wp2_with fail
    refine (HRo.out _ _ o_8.out.jc HW8.out).mono ?_
    rintro e w14 ⟨rfl, hb⟩
    have HB9 := Lib.hid (HB8.out.trans ((hb).mono HB8.out.size))
    have HW9 := Lib.hid (HW8.out.keep hb)
    have x_9 := Lib.hid (x_8.out.keep hb)
    have o_9 := Lib.hid (o_8.out.keep hb)
    have p_9 := Lib.hid (p_8.out.keep hb)
    have q_9 := Lib.hid (q_8.out.keep hb)
    clear hb
    obtain ⟨x9c0, x9c1, x9c2, x9c3, x9c4, x9c5⟩ := six_at x_9.out.row
    go_wp2_with fail
    go_ret
    exact ⟨rfl, HB9.out⟩
  | true =>
    simp only [Bool.true_and] at HRo
    have he := HE.out
    obtain ⟨x7c0, x7c1, x7c2, x7c3, x7c4, x7c5⟩ := six_at x_7.out.row
    obtain ⟨p7c0, p7c1, p7c2, p7c3, p7c4, p7c5⟩ := six_at p_7.out.row
    obtain ⟨o7c0, o7c1, o7c2, o7c3, o7c4, o7c5⟩ := six_at o_7.out.row
    go_wp2_with fail
    refine (HM.out _ _ _ p_7.out.jc x_7.out.jc).mono ?_
    rintro e w11 ⟨rfl, hb⟩
    have HB8 := Lib.hid (HB7.out.trans ((hb).mono HB7.out.size))
    have HW8 := Lib.hid (HW7.out.keep hb)
    have x_8 := Lib.hid (x_7.out.keep hb)
    have o_8 := Lib.hid (o_7.out.keep hb)
    have p_8 := Lib.hid (p_7.out.keep hb)
    have q_8 := Lib.hid (q_7.out.keep hb)
    clear hb
    obtain ⟨x8c0, x8c1, x8c2, x8c3, x8c4, x8c5⟩ := six_at x_8.out.row
    obtain ⟨o8c0, o8c1, o8c2, o8c3, o8c4, o8c5⟩ := six_at o_8.out.row
    go_wp2_with fail
    refine (HShs.out _).mono ?_
    rintro e w12 ⟨rfl, hw⟩
    subst w12
    go_wp2_with fail
    refine (HSht.out _).mono ?_
    rintro e w13 ⟨rfl, hw⟩
    subst w13
    go_wp2_with fail
    refine (HRo.out _ _ o_8.out.jc HW8.out).mono ?_
    rintro e w14 ⟨rfl, hb⟩
    have HB9 := Lib.hid (HB8.out.trans ((hb).mono HB8.out.size))
    have HW9 := Lib.hid (HW8.out.keep hb)
    have x_9 := Lib.hid (x_8.out.keep hb)
    have o_9 := Lib.hid (o_8.out.keep hb)
    have p_9 := Lib.hid (p_8.out.keep hb)
    have q_9 := Lib.hid (q_8.out.keep hb)
    clear hb
    obtain ⟨x9c0, x9c1, x9c2, x9c3, x9c4, x9c5⟩ := six_at x_9.out.row
    go_wp2_with fail
    refine (HRt.out _ _ x_9.out.jc HW9.out).mono ?_
    rintro e w15 ⟨rfl, hb⟩
    have HB10 := Lib.hid (HB9.out.trans ((hb).mono HB9.out.size))
    have HW10 := Lib.hid (HW9.out.keep hb)
    have x_10 := Lib.hid (x_9.out.keep hb)
    have o_10 := Lib.hid (o_9.out.keep hb)
    have p_10 := Lib.hid (p_9.out.keep hb)
    have q_10 := Lib.hid (q_9.out.keep hb)
    clear hb
    go_wp2_with fail
    go_ret
    exact ⟨rfl, HB10.out⟩
end Go.Proofs.YtamclieppbnpiabGreatDoor
