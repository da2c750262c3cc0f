/-
  The glyphs one by one: the iterator.
-/
import Derived.Test.YteojnejomgomjaaDoorProg
import Derived.Test.YteojnejomgomjaaDoorReg
import Derived.WalkKit
import Derived.WalkSpells
import Derived.WalkLawsBesides
import Derived.Lib.Hide
import Derived.Lib.MinMax
import Derived.Deep.QuietTactic
import Derived.BigQuiet
import Derived.OwnWalk
import Derived.Deep.AppendLies
import Derived.KernelRfl
import Derived.RangeFuncNested
import Derived.RangeFuncBound
import Derived.RangeFuncCalls
import Derived.RangeFuncLeaves
import Derived.RangeFuncBox
import Derived.OwnWalkIn
import Derived.TacticsInMore
import Derived.LoopNIn
import Derived.LoopIn
import Derived.Deep.RegionLaw
import Derived.Deep.Cut
import Derived.Test.YteojnejomgomjaaDoorRegIn
import Derived.Test.YteojnejomgomjaaDoorJoint2
import Derived.Test.YteojnejomgomjaaDoorLxCl
set_option linter.unusedSimpArgs false
set_option linter.unusedVariables false
namespace Go.Proofs.YteojnejomgomjaaDoor
open Go.RowKit Go.Maps

attribute [local go_sem] Oper.semAt_some

/-- Blocks from n on stand as they stood. -/
def Above (n : Nat) (W W' : World) : Prop := W.heap.size ≤ W'.heap.size ∧ ∀ k, n ≤ k → k < W.heap.size → W'.heap[k]? = W.heap[k]?
theorem Above.own {n : Nat} {W W' : World} {base : Nat} {e : TypeId} {size : Nat} {v : Value} {m : Nat} {xs : List Value} (h : Above n W W') (hn : n ≤ base) (ho : W.ownsRow base e size v m xs) : W'.ownsRow base e size v m xs := by
  refine ⟨ho.1, ?_⟩
  rcases ho.2 with h1 | ⟨g, cap, cur, h1, h2, h3, h4⟩
  · exact .inl h1
  · exact .inr ⟨g, cap, cur, h1, h2, (h.2 g (by omega) (Array.getElem?_eq_some_iff.1 h3).1).trans h3, h4⟩

theorem all_any (T : Nat) (w : World) :
    Calls Tryd.prog 53 #[.pointer (some ⟨T, 0, none⟩)] w fun e w' => e = .returned (.func (.func 58) #[] #[.pointer (some ⟨w.heap.size, 0, none⟩)]) ∧ w' = w.alloc (.cells #[.pointer (some ⟨T, 0, none⟩)] 73) := by
  go_enter Tryd.func53, Tryd.ntmps53
  go_wp2_with fail
  go_ret
  exact ⟨rfl, rfl⟩

set_option maxRecDepth 100000 in
set_option maxHeartbeats 8000000 in
theorem all1_any (n : Nat) (L pb T : Nat) (J : List Gly → World → Prop) (Jx : World → Prop) (W : World) (hp : W.cell? ⟨pb, 0, none⟩ = some (.pointer (some ⟨T, 0, none⟩))) (hN : NewTab W T) (h0 : ∀ W', FullTab W W.heap.size T W' → J [] W')
    (hst : ∀ pre W1 W2, J pre W1 → Below W.heap.size W1 W2 → J pre W2)
    (hY : ∀ (i : Nat) (x : Gly) (W1 : World), glyphs[i]? = some x → J (glyphs.take i) W1 → W.heap.size ≤ W1.heap.size → YieldAt Fence.wide n Tryd.prog L #[.agg #[.string x.glyph, .string x.letter, .int .i64 x.cls]] W1 fun e W' =>
      (e = .returned (.bool true) ∧ J (glyphs.take (i + 1)) W' ∧ Above W.heap.size W1 W') ∨ (e = .returned (.bool false) ∧ Jx W')) :
    Calls Tryd.prog 58 #[.func (.yield L) #[] #[], .pointer (some ⟨pb, 0, none⟩)] W fun e W' => (∃ v, e = .returned v) ∧ (J glyphs W' ∨ Jx W') := by
  have HF := Lib.hid (fill_new T W hN)
  have HY := Lib.hid hY
  have HST := Lib.hid hst
  have H0 := Lib.hid h0
  clear hY hst h0 hN
  have hgl : glyphs.length = 38 := rfl
  have HGL := Lib.hid hgl
  generalize hn : W.heap.size = n0 at *
  go_enter Tryd.func58, Tryd.ntmps58
  go_wp2_with fail
  go_step3
  go_wp2_with fail
  go_step3
  go_wp2_with fail
  refine HF.out.mono ?_
  rintro e W0 ⟨rfl, hF⟩
  have HJ0 := Lib.hid (H0.out _ hF)
  obtain ⟨M, lv, h1, h2, h3⟩ := hF
  have hrow := h1.row
  have c3 : W0.cell? ⟨T, 3, none⟩ = some lv := by simp [World.cell?, hrow]
  have hown := h1.l
  obtain ⟨A, c, rfl, _, hH, _⟩ := holdsG_of_own hown
  rw [hgl] at hown c3
  have HO := Lib.hid hown
  clear h1 h2 hrow hown hH HF H0 hgl
  go_wp2_with fail
  go_loopw [11] (fun s wr => ∃ (i : Nat), s = .int .i64 i ∧ i ≤ 38 ∧ Hid (J (glyphs.take i) wr) ∧ Hid (wr.ownsRow n0 tG 3 (.slice A 38 c) 38 (glyCells glyphs)) ∧ n0 ≤ wr.heap.size) (fun s _ => 38 - (intOf s).toNat)
  case atStart => exact ⟨0, rfl, Nat.zero_le _, HJ0, HO, h3⟩
  case round =>
    obtain ⟨i, rfl, hi, HJ, HW, hz⟩ := hrel
    by_cases hlt : i < 38
    · have g := List.getElem?_eq_getElem (l := glyphs) (i := i) (by rw [HGL.out]; exact hlt)
      generalize glyphs[i]'(by rw [HGL.out]; exact hlt) = x at *
      have hw := HW.out
      rw [← HGL.out] at hw
      obtain ⟨A', c', e, _, hH, _⟩ := holdsG_of_own hw
      cases e
      obtain ⟨b, off, rfl, d0, d1, d2⟩ := hH i x g
      have lb : b < wr.heap.size := cell_lt d0
      have hb1 := below_new wr (.cells #[.string x.glyph, .string x.letter, .int .i64 x.cls] tG)
      have HB1 := Lib.hid (HST.out _ _ _ HJ.out (hb1.mono hz))
      obtain ⟨fn, tmps, assign, body, hy, hR⟩ := HY.out i x _ g HB1.out (by simp; omega)
      have HR := Lib.hid hR
      have HO1 := Lib.hid (own_below HW.out hb1)
      clear hR hb1 hw hH g
      have x0 : (wr.alloc (.cells #[.string x.glyph, .string x.letter, .int .i64 x.cls] tG)).cell? ⟨wr.heap.size, 0, none⟩ = some (.string x.glyph) := by simp
      have x1 : (wr.alloc (.cells #[.string x.glyph, .string x.letter, .int .i64 x.cls] tG)).cell? ⟨wr.heap.size, 1, none⟩ = some (.string x.letter) := by simp
      have x2 : (wr.alloc (.cells #[.string x.glyph, .string x.letter, .int .i64 x.cls] tG)).cell? ⟨wr.heap.size, 2, none⟩ = some (.int .i64 x.cls) := by simp
      have hz1 : n0 ≤ (wr.alloc (.cells #[.string x.glyph, .string x.letter, .int .i64 x.cls] tG)).heap.size := by simp; omega
      go_upto_region 3 with fail
      generalize wr.alloc (.cells #[.string x.glyph, .string x.letter, .int .i64 x.cls] tG) = w1 at *
      refine (wpIn_wide (n := n + 1)).1 ?_
      gi_wp2_with fail
      refine HR.out.mono ?_
      rintro e w4 (⟨rfl, hJ4, hA4⟩ | ⟨rfl, hJ4⟩)
      · have HJ4 := Lib.hid hJ4
        have HO4 := Lib.hid (hA4.own (Nat.le_refl _) HO1.out)
        have hz4 : n0 ≤ w4.heap.size := Nat.le_trans hz1 hA4.1
        clear hJ4 hA4
        gi_wp2_with fail
        go_wp2_with fail
        go_roundw
        case rel => exact ⟨i + 1, by go_num, by omega, HJ4, HO4, hz4⟩
        case measure => simp [intOf]; omega
      · have HJ4 := Lib.hid hJ4
        clear hJ4
        gi_wp2_with fail
        go_wp2_with fail
        try rw [Exit.noGoto_normal]
        go_end0
        exact ⟨⟨_, rfl⟩, .inr HJ4.out⟩
    · obtain rfl : i = 38 := by omega
      have hJe := HJ.out
      rw [← HGL.out, List.take_of_length_le (Nat.le_refl _)] at hJe
      have HJe := Lib.hid hJe
      clear hJe HJ
      go_wp2_with fail
      try rw [Exit.noGoto_normal]
      go_end0
      exact ⟨⟨_, rfl⟩, .inl HJe.out⟩
end Go.Proofs.YteojnejomgomjaaDoor
