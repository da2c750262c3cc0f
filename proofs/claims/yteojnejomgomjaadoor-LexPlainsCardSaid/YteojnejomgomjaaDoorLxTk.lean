/-
  A line's tokens one by one: the iterator.
-/
import Derived.Test.YteojnejomgomjaaDoorProg
import Derived.Test.YteojnejomgomjaaDoorReg
import Derived.WalkKit
import Derived.WalkSpells
import Derived.WalkLawsBesides
import Derived.Lib.Hide
import Derived.Lib.MinMax
import Derived.Deep.QuietTactic
import Derived.BigQuiet
import Derived.OwnWalk
import Derived.Deep.AppendLies
import Derived.KernelRfl
import Derived.RangeFuncNested
import Derived.RangeFuncBound
import Derived.RangeFuncCalls
import Derived.RangeFuncLeaves
import Derived.RangeFuncBox
import Derived.OwnWalkIn
import Derived.TacticsInMore
import Derived.LoopNIn
import Derived.LoopIn
import Derived.Deep.RegionLaw
import Derived.Deep.Cut
import Derived.Test.YteojnejomgomjaaDoorRegIn
import Derived.Test.YteojnejomgomjaaDoorJoint2
import Derived.Test.YteojnejomgomjaaDoorLxFu
set_option linter.unusedSimpArgs false
set_option linter.unusedVariables false
namespace Go.Proofs.YteojnejomgomjaaDoor
open Go.RowKit Go.Maps

attribute [local go_sem] Oper.semAt_some

theorem tokens_any (s : ByteArray) (w : World) :
    Calls Tryd.prog 21 #[.string s] w fun e w' => e = .returned (.func (.func 33) #[] #[.pointer (some ⟨w.heap.size, 0, none⟩)]) ∧ w' = w.alloc (.cells #[.string s] 9) := by
  go_enter Tryd.func21, Tryd.ntmps21
  go_wp2_with fail
  go_ret
  exact ⟨rfl, rfl⟩

/-- What is left in the box. -/
def restIn (sb : Nat) (W : World) : Nat := match W.cell? ⟨sb, 0, none⟩ with
  | some (.string r) => r.size
  | _ => 0
theorem restIn_of {sb : Nat} {W : World} {r : ByteArray} (h : W.heap[sb]? = some (.cells #[.string r] 9 (0, 0))) : restIn sb W = r.size := by
  have : W.cell? ⟨sb, 0, none⟩ = some (.string r) := by simp [World.cell?, h]
  unfold restIn
  rw [this]

set_option maxRecDepth 100000 in
set_option maxHeartbeats 8000000 in
theorem tokens1_any (n : Nat) (L sb : Nat) (s : ByteArray) (J : List Tok → World → Prop) (W : World) (hs : s.size ≤ 1000000) (hb : W.heap[sb]? = some (.cells #[.string s] 9 (0, 0))) (h0 : J [] W)
    (hst : ∀ pre W1 W2, J pre W1 → Below W1.heap.size W1 W2 → J pre W2) (hsc : ∀ pre W1 v, J pre W1 → J pre (W1.setCell ⟨sb, 0, none⟩ v)) (hT : ∀ pre W1, J pre W1 → Tabs W1)
    (hY : ∀ (pre : List Tok) (x : Tok) (W0 W1 : World), J pre W0 → pre.length < (dLine s).length → W.heap.size ≤ W0.heap.size → Below W0.heap.size W0 W1 → YieldAt Fence.wide n Tryd.prog L #[.agg #[.int .i64 x.kind, .string x.text, .string x.glyph]] W1 fun e W' =>
      e = .returned (.bool true) ∧ J (pre ++ [x]) W' ∧ W'.heap[sb]? = W1.heap[sb]? ∧ W1.heap.size ≤ W'.heap.size ∧ ∀ k, W0.heap.size ≤ k → k < W1.heap.size → W'.heap[k]? = W1.heap[k]?) :
    Calls Tryd.prog 33 #[.func (.yield L) #[] #[], .pointer (some ⟨sb, 0, none⟩)] W fun e W' => (∃ v, e = .returned v) ∧ J (dLine s) W' := by
  have HY := Lib.hid hY
  have HST := Lib.hid hst
  have HSC := Lib.hid hsc
  have HT := Lib.hid hT
  have H0 := Lib.hid h0
  have hsb : sb < W.heap.size := (Array.getElem?_eq_some_iff.1 hb).1
  have HB := Lib.hid hb
  clear hY hst hsc hT h0 hb
  generalize hn : W.heap.size = n0 at *
  go_enter Tryd.func33, Tryd.ntmps33
  go_wp2_with fail
  go_step3
  go_wp2_with fail
  go_step3
  go_wp2_with fail
  go_loopw [] (fun wr => ∃ (r : ByteArray) (pre : List Tok), Hid (wr.heap[sb]? = some (.cells #[.string r] 9 (0, 0))) ∧ Hid (J pre wr) ∧ Hid (pre ++ dLine r = dLine s) ∧ r.size ≤ 1000000 ∧ n0 ≤ wr.heap.size) (fun wr => restIn sb wr)
  case atStart => exact ⟨s, [], HB, H0, Lib.hid rfl, hs, by omega⟩
  case round =>
    obtain ⟨r, pre, HR, HJ, HP, hr, hz⟩ := hrel
    have hT := HT.out _ _ HJ.out
    have HRw := HR
    have cr : wr.cell? ⟨sb, 0, none⟩ = some (.string r) := by have := HR.out; simp [World.cell?, this]
    by_cases h0 : r.size = 0
    · obtain rfl : r = ByteArray.empty := ByteArray.size_eq_zero_iff.1 h0
      have HF := First_none wr
      unfold Tok.val noTok at HF
      have HF := Lib.hid HF
      have HE : Hid (pre = dLine s) := Lib.hid (by
        rw [← HP.out]
        have : dLine ByteArray.empty = [] := dLine_nil
        rw [this, List.append_nil])
      clear hT h0
      go_wp2_with fail
      refine HF.out.mono ?_
      rintro e w2 ⟨rfl, hb2⟩
      have HJ2 := Lib.hid (HST.out _ _ _ HJ.out (hb2.trans ((Below.refl wr.heap.size w2).alloc hb2.size (.cells #[.int .i64 0, .string ⟨#[]⟩, .string ⟨#[]⟩] 27))))
      clear HF hb2 HR HJ HP cr
      go_wp2_with fail
      try rw [Exit.noGoto_normal]
      go_end0
      rw [← HE.out]
      exact ⟨⟨_, rfl⟩, HJ2.out⟩
    · have h1 : 0 < r.size := by omega
      have HF := First_some r wr h1 hr hT
      unfold Tok.val at HF
      have HF := Lib.hid HF
      obtain ⟨m, m1, m2, hm, _⟩ := first_begins h1
      have hfs : (dFirst r).text.size ≤ r.size := by rw [hm, ext_size]; omega
      have HP2 : Hid ((pre ++ [dFirst r]) ++ dLine (restOf r) = dLine s) := Lib.hid (by rw [← HP.out, dLine_cons h1]; simp)
      have HRS := Lib.hid (rest_less h1)
      have HRD : Hid (restOf r = r.extract (dFirst r).text.size r.size) := Lib.hid rfl
      generalize dFirst r = x at *
      generalize restOf r = r2 at *
      have HRE : Hid (r.extract x.text.size r.size = r2) := Lib.hid HRD.out.symm
      clear hm HRD hT
      go_wp2_with fail
      refine HF.out.mono ?_
      rintro e w2 ⟨rfl, hb2⟩
      go_upto_region 1 with fail
      have hsz2 := hb2.size
      have hB3 : Below wr.heap.size wr (w2.alloc (.cells #[.int .i64 x.kind, .string x.text, .string x.glyph] 27)) := hb2.alloc hsz2 _
      have hX3 := heap_alloc_new w2 (.cells #[.int .i64 x.kind, .string x.text, .string x.glyph] 27)
      have hz3 : (w2.alloc (.cells #[.int .i64 x.kind, .string x.text, .string x.glyph] 27)).heap.size = w2.heap.size + 1 := by simp
      have HJ3 := HJ.out
      have HR3 := (hB3.block sb (by omega)).trans HR.out
      generalize w2.alloc (.cells #[.int .i64 x.kind, .string x.text, .string x.glyph] 27) = w3 at *
      obtain ⟨fn, tmps, assign, body, hy, hRd⟩ := HY.out pre x wr w3 HJ3 (by rw [← HP2.out]; simp) hz hB3
      have HRo := Lib.hid hRd
      obtain ⟨x0, x1, x2, _⟩ := tok_cells hX3
      have HX3 := Lib.hid hX3
      have HR3h := Lib.hid HR3
      clear hRd hX3 HR3 hB3 HJ3 HR HJ HF cr
      refine (wpIn_wide (n := n + 1)).1 ?_
      gi_wp2_with fail
      refine HRo.out.mono ?_
      rintro e w4 ⟨rfl, hJ4, hs4, hz34, hA4⟩
      have hR4 := hs4.trans HR3h.out
      have hX4 := (hA4 w2.heap.size (by omega) (by omega)).trans HX3.out
      obtain ⟨y0, y1, y2, _⟩ := tok_cells hX4
      have cs4 : w4.cell? ⟨sb, 0, none⟩ = some (.string r) := by simp [World.cell?, hR4]
      have zs4 : w4.frozen? ⟨sb, 0, none⟩ = false := frozen_of_row w4 _ 0 _ _ hR4
      have HJ5 := Lib.hid (HSC.out _ w4 (.string r2) hJ4)
      have hz4 : n0 ≤ w4.heap.size := by omega
      have HR5 : Hid ((w4.setCell ⟨sb, 0, none⟩ (.string r2)).heap[sb]? = some (.cells #[.string r2] 9 (0, 0))) := Lib.hid (by rw [heap_setCell_same w4 sb 0 _ _ _ hR4]; simp)
      have HM : Hid (restIn sb (w4.setCell ⟨sb, 0, none⟩ (.string r2)) < restIn sb wr) := Lib.hid (by rw [restIn_of HR5.out, restIn_of HRw.out]; exact HRS.out)
      have hr2 : r2.size ≤ 1000000 := by have := HRS.out; omega
      clear hR4 hX4 hs4 hA4 hJ4 x0 x1 x2 HX3 HR3h
      gi_wp2_with fail
      go_wp2_with fail
      try rw [HRE.out]
      go_roundw
      case rel => exact ⟨r2, _, HR5, HJ5, HP2, hr2, by simpa using hz4⟩
      case measure => exact HM.out
end Go.Proofs.YteojnejomgomjaaDoor
