/-
  Which values are right: by the document's program text.
-/
import Derived.Test.YtamclieppbnpiaaGreatDoorProg
import Derived.Test.YtamclieppbnpiaaGreatDoorReg
import Derived.WalkKit
import Derived.WalkSpells
import Derived.WalkLawsBesides
import Derived.Lib.Hide
import Derived.Lib.MinMax
import Derived.Deep.QuietTactic
import Derived.BigQuiet
import Derived.OwnWalk
import Derived.Deep.AppendLies
import Derived.KernelRfl
import Derived.Laws.RangeAny
import Derived.Deep.RegionLaw
import Derived.Deep.RegionWith
import Derived.Deep.Cut
import Derived.Deep.CutRange
import Derived.Deep.CutBlock
import Derived.Test.YtamclieppbnpiaaGreatDoorJw15
set_option linter.unusedSimpArgs false
set_option linter.unusedVariables false
namespace Go.Proofs.YtamclieppbnpiaaGreatDoor
open Go Go.RowKit Go.Sort Go.Shelf
open Fz (HoldsS)

def isY (v : Js) : Bool := if v.kind = 1 then v.yes else false
def isN (v : Js) : Int := if v.kind = 2 then v.n else 0
def isS (v : Js) : ByteArray := if v.kind = 3 then v.s else ByteArray.empty
def isK (v : Js) : Nat := if v.kind = 5 then v.keys.length else 0
def isL (v : Js) : Nat := if v.kind = 4 ∨ v.kind = 5 then v.l.length else 0
theorem valid_empty : validB ByteArray.empty = true := by unfold validB; exact Lib.validD_nil
theorem own_ref {d : Nat} {v : Js} (h : v.kind = 0 ∨ v.kind = 1 ∨ v.kind = 2 ∨ v.kind = 3 ∨ v.kind = 4 ∨ v.kind = 5) :
    ownJ d v = (!(decide (d < 1) && decide (v.kind = 4 ∨ v.kind = 5)) && decide (isL v = v.l.length) && decide (isK v = v.keys.length) && decide (isY v = v.yes) && decide (isN v = v.n) && decide (isS v = v.s) && validB v.s && keysOk v.keys && !(decide (v.kind = 5) && decide (v.keys.length ≠ v.l.length))) := by
  have ke : keysOk [] = true := rfl
  have hk0 : v.keys = [] → keysOk v.keys = true := fun h => by rw [h]; rfl
  have e1 : (0 = v.l.length) = (v.l = []) := propext ⟨fun h => List.length_eq_zero_iff.1 h.symm, fun h => by rw [h]; rfl⟩
  have e2 : (0 = v.keys.length) = (v.keys = []) := propext ⟨fun h => List.length_eq_zero_iff.1 h.symm, fun h => by rw [h]; rfl⟩
  have e3 : (0 = v.n) = (v.n = 0) := propext ⟨Eq.symm, Eq.symm⟩
  have e4 : (ByteArray.empty = v.s) = (v.s = ByteArray.empty) := propext ⟨Eq.symm, Eq.symm⟩
  have e5 : (0 < d) = ¬ d = 0 := by rw [eq_iff_iff]; omega
  have hs0 : v.s = ByteArray.empty → validB v.s = true := fun h => by rw [h]; exact valid_empty
  rw [Bool.eq_iff_iff]
  unfold isY isN isS isK isL
  rcases h with h | h | h | h | h | h
  · rw [own_k0 h]
    unfold plJ baJ
    simp only [h, e1, e2, e3, e4, e5, Bool.and_eq_true, decide_eq_true_eq, Bool.not_eq_true', if_true, if_false, List.length_eq_zero_iff]
    simp [e1, e2, e3, e4, e5]
    first | (constructor <;> (intro hh; simp_all; done)) | (intros; simp_all; done)
  · rw [own_k1 h]
    unfold plJ
    simp only [h, e1, e2, e3, e4, e5, Bool.and_eq_true, decide_eq_true_eq, Bool.not_eq_true', if_true, if_false, List.length_eq_zero_iff]
    simp [e1, e2, e3, e4, e5]
    first | (constructor <;> (intro hh; simp_all; done)) | (intros; simp_all; done)
  · rw [own_k2 h]
    unfold plJ
    simp only [h, e1, e2, e3, e4, e5, Bool.and_eq_true, decide_eq_true_eq, Bool.not_eq_true', if_true, if_false, List.length_eq_zero_iff]
    simp [e1, e2, e3, e4, e5]
    first | (constructor <;> (intro hh; simp_all; done)) | (intros; simp_all; done)
  · rw [own_k3 h]
    unfold plJ
    simp only [h, e1, e2, e3, e4, e5, Bool.and_eq_true, decide_eq_true_eq, Bool.not_eq_true', if_true, if_false, List.length_eq_zero_iff]
    simp [e1, e2, e3, e4, e5]
    first | (constructor <;> (intro hh; simp_all; done)) | (intros; simp_all; done)
  · rw [own_k4 h]
    unfold baJ
    simp only [h, e1, e2, e3, e4, e5, Bool.and_eq_true, decide_eq_true_eq, Bool.not_eq_true', if_true, if_false, List.length_eq_zero_iff]
    simp [e1, e2, e3, e4, e5]
    first | (constructor <;> (intro hh; simp_all; done)) | (intros; simp_all; done)
  · rw [own_k5 h]
    unfold baJ
    simp only [h, e1, e2, e3, e4, e5, Bool.and_eq_true, decide_eq_true_eq, Bool.not_eq_true', if_true, if_false, List.length_eq_zero_iff]
    simp [e1, e2, e3, e4, e5]
    first | (constructor <;> (intro hh; simp_all; done)) | (intros; simp_all; done)

/-- What the document's 'right' says of a value. -/
def RRightAt (d : Nat) (x : Js) : Prop := ∀ (cs : List Value) (W : World), JC W x cs → Calls Tryz.prog 40 #[.agg cs.toArray, .int .i64 (d : Int)] W fun e w' => e = .returned (.bool (rightJ d x)) ∧ Below W.heap.size W w'
set_option maxRecDepth 100000 in
set_option maxHeartbeats 16000000 in
theorem rright_step (M : Nat) (hM : M ≤ 1000000) (v : Js) (hok : okJ M v) (d : Nat) (hd : d ≤ 1000) (IH : ∀ d', d = d' + 1 → ∀ x ∈ v.l, RRightAt d' x) : RRightAt d v := by
  intro cs w hJ
  obtain ⟨hx1, hx2, hx3, hx4, hx5, hx6⟩ := okJ_iff.1 hok
  obtain ⟨A1, c1, B1, d1, rfl, hS1, hc1, hd1, hL1⟩ := JC_iff.1 hJ
  have HS := Lib.hid hS1
  have HL := Lib.hid hL1
  have HI := Lib.hid IH
  have HZ : Hid (∀ k ∈ v.keys, k.size ≤ 1000000) := Lib.hid (fun k hk => by have := hx5 k hk; omega)
  have hk1 : v.keys.length ≤ 1000000 := by omega
  have hl1 : v.l.length ≤ 1000000 := by omega
  have hs1 : v.s.size ≤ 1000000 := by omega
  have HR := Lib.hid (right_split d v)
  have HO := Lib.hid (fun h => own_ref (d := d) (v := v) h)
  clear hJ hS1 hL1 IH hx5 hx6 hok
  go_enter Tryz.func40, Tryz.ntmps40
  go_upto_block 0 with fail
  have X0 : ((w.alloc (.cells #[.int .i64 v.kind, .bool v.yes, .int .i64 v.n, .string v.s, .slice A1 v.keys.length c1, .slice B1 v.l.length d1] tJ)).alloc (.cells #[.int .i64 v.kind, .bool false, .int .i64 0, .string ByteArray.empty, .slice none 0 0, .slice none 0 0] tJ)).heap[w.heap.size]? = some (.cells #[.int .i64 v.kind, .bool v.yes, .int .i64 v.n, .string v.s, .slice A1 v.keys.length c1, .slice B1 v.l.length d1] tJ (0, 0)) := (Lib.alloc_old _ _ _ (by simp)).trans (heap_alloc_new w _)
  have X1 : ((w.alloc (.cells #[.int .i64 v.kind, .bool v.yes, .int .i64 v.n, .string v.s, .slice A1 v.keys.length c1, .slice B1 v.l.length d1] tJ)).alloc (.cells #[.int .i64 v.kind, .bool false, .int .i64 0, .string ByteArray.empty, .slice none 0 0, .slice none 0 0] tJ)).heap[w.heap.size + 1]? = some (.cells #[.int .i64 v.kind, .bool false, .int .i64 0, .string ByteArray.empty, .slice none 0 0, .slice none 0 0] tJ (0, 0)) := by
    have := heap_alloc_new (w.alloc (.cells #[.int .i64 v.kind, .bool v.yes, .int .i64 v.n, .string v.s, .slice A1 v.keys.length c1, .slice B1 v.l.length d1] tJ)) (.cells #[.int .i64 v.kind, .bool false, .int .i64 0, .string ByteArray.empty, .slice none 0 0, .slice none 0 0] tJ)
    simpa using this
  have hBw := below2 w (.cells #[.int .i64 v.kind, .bool v.yes, .int .i64 v.n, .string v.s, .slice A1 v.keys.length c1, .slice B1 v.l.length d1] tJ) (.cells #[.int .i64 v.kind, .bool false, .int .i64 0, .string ByteArray.empty, .slice none 0 0, .slice none 0 0] tJ)
  change Code.wp _ _ _ _ ((w.alloc (.cells #[.int .i64 v.kind, .bool v.yes, .int .i64 v.n, .string v.s, .slice A1 v.keys.length c1, .slice B1 v.l.length d1] tJ)).alloc (.cells #[.int .i64 v.kind, .bool false, .int .i64 0, .string ByteArray.empty, .slice none 0 0, .slice none 0 0] tJ))
  generalize (w.alloc (.cells #[.int .i64 v.kind, .bool v.yes, .int .i64 v.n, .string v.s, .slice A1 v.keys.length c1, .slice B1 v.l.length d1] tJ)).alloc (.cells #[.int .i64 v.kind, .bool false, .int .i64 0, .string ByteArray.empty, .slice none 0 0, .slice none 0 0] tJ) = W1 at *
  have X2 := Lib.hid X0
  have X3 := Lib.hid X1
  have HBw := Lib.hid hBw
  have l1 : w.heap.size + 1 < W1.heap.size := (Array.getElem?_eq_some_iff.1 X1).1
  have l0 : w.heap.size < W1.heap.size := by omega
  clear X0 X1 hBw
  go_cut [12] from 13 to 41 (fun _ wx => (v.kind = 0 ∨ v.kind = 1 ∨ v.kind = 2 ∨ v.kind = 3 ∨ v.kind = 4 ∨ v.kind = 5) ∧ wx.heap[w.heap.size]? = some (.cells #[.int .i64 v.kind, .bool v.yes, .int .i64 v.n, .string v.s, .slice A1 v.keys.length c1, .slice B1 v.l.length d1] tJ (0, 0)) ∧ (∃ (A' : Option Addr) (c' : Nat) (B' : Option Addr) (d' : Nat), wx.heap[w.heap.size + 1]? = some (.cells #[.int .i64 v.kind, .bool (isY v), .int .i64 (isN v), .string (isS v), .slice A' (isK v) c', .slice B' (isL v) d'] tJ (0, 0))) ∧ Below w.heap.size w wx)
  case first =>
    have c0 : ∀ j u, (#[.int .i64 v.kind, .bool v.yes, .int .i64 v.n, .string v.s, .slice A1 v.keys.length c1, .slice B1 v.l.length d1] : Array Value)[j]? = some u → W1.cell? ⟨w.heap.size, j, none⟩ = some u := fun j u h => by rw [Lib.cell_of_heap X2.out]; exact h
    have e1 := c0 1 _ rfl
    have e2 := c0 2 _ rfl
    have e3 := c0 3 _ rfl
    have e4 := c0 4 _ rfl
    have e5 := c0 5 _ rfl
    have z1 : ∀ j, W1.frozen? ⟨w.heap.size + 1, j, none⟩ = false := fun j => frozen_of_row W1 _ j _ _ X3.out
    have y1 : W1.cell? ⟨w.heap.size + 1, 1, none⟩ = some (.bool false) := by rw [Lib.cell_of_heap X3.out]; rfl
    have y2 : W1.cell? ⟨w.heap.size + 1, 2, none⟩ = some (.int .i64 0) := by rw [Lib.cell_of_heap X3.out]; rfl
    have y3 : W1.cell? ⟨w.heap.size + 1, 3, none⟩ = some (.string ByteArray.empty) := by rw [Lib.cell_of_heap X3.out]; rfl
    have y4 : W1.cell? ⟨w.heap.size + 1, 4, none⟩ = some (.slice none 0 0) := by rw [Lib.cell_of_heap X3.out]; rfl
    have y5 : W1.cell? ⟨w.heap.size + 1, 5, none⟩ = some (.slice none 0 0) := by rw [Lib.cell_of_heap X3.out]; rfl
    clear c0
    by_cases k0 : v.kind = 0
    · have q0 : (v.kind == 0) = true := by simpa using k0
      have HK := Lib.hid k0
      clear k0
      go_wp2_with fail
      go_meet
      refine ⟨.inl HK.out, X2.out, ⟨none, 0, none, 0, ?_⟩, HBw.out⟩
      have := HK.out
      simpa [isY, isN, isS, isK, isL, this] using X3.out
    have q0 : (v.kind == 0) = false := by simpa using k0
    by_cases k1 : v.kind = 1
    · have q1 : (v.kind == 1) = true := by simpa using k1
      have HK := Lib.hid k1
      clear k1 k0
      go_wp2_with fail
      go_meet
      refine ⟨.inr (.inl HK.out), (heap_setCell_other _ _ _ _ (by show w.heap.size ≠ w.heap.size + 1; omega)).trans X2.out, ⟨none, 0, none, 0, ?_⟩, HBw.out.setCell (p := ⟨w.heap.size + 1, 1, none⟩) (by show w.heap.size ≤ w.heap.size + 1; omega) _⟩
      have hk := HK.out
      rw [heap_setCell_same _ _ _ _ _ _ X3.out]
      simp [isY, isN, isS, isK, isL, hk]
      try rfl
    have q1 : (v.kind == 1) = false := by simpa using k1
    by_cases k2 : v.kind = 2
    · have q2 : (v.kind == 2) = true := by simpa using k2
      have HK := Lib.hid k2
      clear k2 k0 k1
      go_wp2_with fail
      go_meet
      refine ⟨.inr (.inr (.inl HK.out)), (heap_setCell_other _ _ _ _ (by show w.heap.size ≠ w.heap.size + 1; omega)).trans X2.out, ⟨none, 0, none, 0, ?_⟩, HBw.out.setCell (p := ⟨w.heap.size + 1, 2, none⟩) (by show w.heap.size ≤ w.heap.size + 1; omega) _⟩
      have hk := HK.out
      rw [heap_setCell_same _ _ _ _ _ _ X3.out]
      simp [isY, isN, isS, isK, isL, hk]
      try rfl
    have q2 : (v.kind == 2) = false := by simpa using k2
    by_cases k3 : v.kind = 3
    · have q3 : (v.kind == 3) = true := by simpa using k3
      have HK := Lib.hid k3
      clear k3 k0 k1 k2
      go_wp2_with fail
      go_meet
      refine ⟨.inr (.inr (.inr (.inl HK.out))), (heap_setCell_other _ _ _ _ (by show w.heap.size ≠ w.heap.size + 1; omega)).trans X2.out, ⟨none, 0, none, 0, ?_⟩, HBw.out.setCell (p := ⟨w.heap.size + 1, 3, none⟩) (by show w.heap.size ≤ w.heap.size + 1; omega) _⟩
      have hk := HK.out
      rw [heap_setCell_same _ _ _ _ _ _ X3.out]
      simp [isY, isN, isS, isK, isL, hk]
      try rfl
    have q3 : (v.kind == 3) = false := by simpa using k3
    by_cases k4 : v.kind = 4
    · have q4 : (v.kind == 4) = true := by simpa using k4
      have HK := Lib.hid k4
      clear k4 k0 k1 k2 k3
      go_wp2_with fail
      go_meet
      refine ⟨.inr (.inr (.inr (.inr (.inl HK.out)))), (heap_setCell_other _ _ _ _ (by show w.heap.size ≠ w.heap.size + 1; omega)).trans X2.out, ⟨none, 0, B1, d1, ?_⟩, HBw.out.setCell (p := ⟨w.heap.size + 1, 5, none⟩) (by show w.heap.size ≤ w.heap.size + 1; omega) _⟩
      have hk := HK.out
      rw [heap_setCell_same _ _ _ _ _ _ X3.out]
      simp [isY, isN, isS, isK, isL, hk]
      try rfl
    have q4 : (v.kind == 4) = false := by simpa using k4
    by_cases k5 : v.kind = 5
    · have q5 : (v.kind == 5) = true := by simpa using k5
      have HK := Lib.hid k5
      clear k5 k0 k1 k2 k3 k4
      go_wp2_with fail
      go_meet
      refine ⟨.inr (.inr (.inr (.inr (.inr HK.out)))), (heap_setCell_other _ _ _ _ (by show w.heap.size ≠ w.heap.size + 1; omega)).trans ((heap_setCell_other _ _ _ _ (by show w.heap.size ≠ w.heap.size + 1; omega)).trans X2.out), ⟨A1, c1, B1, d1, ?_⟩, (HBw.out.setCell (p := ⟨w.heap.size + 1, 5, none⟩) (by show w.heap.size ≤ w.heap.size + 1; omega) _).setCell (p := ⟨w.heap.size + 1, 4, none⟩) (by show w.heap.size ≤ w.heap.size + 1; omega) _⟩
      have hk := HK.out
      have h5 := heap_setCell_same W1 (w.heap.size + 1) 5 _ _ (.slice B1 v.l.length d1) X3.out
      rw [heap_setCell_same _ _ _ _ _ _ h5]
      simp [isY, isN, isS, isK, isL, hk]
      try rfl
    have q5 : (v.kind == 5) = false := by simpa using k5
    have HE : Hid (rightJ d v = false) := Lib.hid (by rw [HR.out, own_k6 k0 k1 k2 k3 k4 k5]; rfl)
    clear k0 k1 k2 k3 k4 k5
    go_wp2_with fail
    go_ret
    exact ⟨by rw [HE.out]; rfl, HBw.out⟩
  case rest =>
  obtain ⟨hkind, hX0, ⟨A', c', B', d', hX1⟩, hBc⟩ := hcut
  have a0 : wc.cell? ⟨w.heap.size, 0, none⟩ = some (.int .i64 v.kind) := by rw [Lib.cell_of_heap hX0]; rfl
  have a1 : wc.cell? ⟨w.heap.size, 1, none⟩ = some (.bool v.yes) := by rw [Lib.cell_of_heap hX0]; rfl
  have a2 : wc.cell? ⟨w.heap.size, 2, none⟩ = some (.int .i64 v.n) := by rw [Lib.cell_of_heap hX0]; rfl
  have a3 : wc.cell? ⟨w.heap.size, 3, none⟩ = some (.string v.s) := by rw [Lib.cell_of_heap hX0]; rfl
  have a4 : wc.cell? ⟨w.heap.size, 4, none⟩ = some (.slice A1 v.keys.length c1) := by rw [Lib.cell_of_heap hX0]; rfl
  have a5 : wc.cell? ⟨w.heap.size, 5, none⟩ = some (.slice B1 v.l.length d1) := by rw [Lib.cell_of_heap hX0]; rfl
  have i1 : wc.cell? ⟨w.heap.size + 1, 1, none⟩ = some (.bool (isY v)) := by rw [Lib.cell_of_heap hX1]; rfl
  have i2 : wc.cell? ⟨w.heap.size + 1, 2, none⟩ = some (.int .i64 (isN v)) := by rw [Lib.cell_of_heap hX1]; rfl
  have i3 : wc.cell? ⟨w.heap.size + 1, 3, none⟩ = some (.string (isS v)) := by rw [Lib.cell_of_heap hX1]; rfl
  have i4 : wc.cell? ⟨w.heap.size + 1, 4, none⟩ = some (.slice A' (isK v) c') := by rw [Lib.cell_of_heap hX1]; rfl
  have i5 : wc.cell? ⟨w.heap.size + 1, 5, none⟩ = some (.slice B' (isL v) d') := by rw [Lib.cell_of_heap hX1]; rfl
  have HBc := Lib.hid hBc
  have hO := HO.out hkind
  have hlc : w.heap.size + 1 < wc.heap.size := (Array.getElem?_eq_some_iff.1 hX1).1
  have hlc0 : w.heap.size < wc.heap.size := by omega
  clear hBc hX0 hX1 HBw X2 X3 l0 l1 HO
  obtain ⟨bG, hG⟩ : ∃ b, b = (decide (d < 1) && decide (v.kind = 4 ∨ v.kind = 5)) := ⟨_, rfl⟩
  obtain ⟨bL, hbL⟩ : ∃ b, b = decide (isL v = v.l.length) := ⟨_, rfl⟩
  obtain ⟨bK, hbK⟩ : ∃ b, b = decide (isK v = v.keys.length) := ⟨_, rfl⟩
  obtain ⟨bY, hbY⟩ : ∃ b, b = decide (isY v = v.yes) := ⟨_, rfl⟩
  obtain ⟨bN, hbN⟩ : ∃ b, b = decide (isN v = v.n) := ⟨_, rfl⟩
  obtain ⟨bS, hbS⟩ : ∃ b, b = decide (isS v = v.s) := ⟨_, rfl⟩
  have HV := Lib.hid (fun W => utf_any' v.s W hs1)
  have HKy := Lib.hid (keys_any v.keys A1 c1 wc hk1 hc1 HZ.out (HS.out.below HBc.out))
  obtain ⟨bV, hbV⟩ : ∃ b, b = validB v.s := ⟨_, rfl⟩
  obtain ⟨bQ, hbQ⟩ : ∃ b, b = keysOk v.keys := ⟨_, rfl⟩
  rw [← hG, ← hbL, ← hbK, ← hbY, ← hbN, ← hbS, ← hbV, ← hbQ] at hO
  rw [← hbV] at HV
  rw [← hbQ] at HKy
  have eL : ((isL v : Int) != (v.l.length : Int)) = !bL := by rw [hbL, Bool.eq_iff_iff]; simp; omega
  have eK : ((isK v : Int) != (v.keys.length : Int)) = !bK := by rw [hbK, Bool.eq_iff_iff]; simp; omega
  have eY : (isY v == v.yes) = bY := by rw [hbY, Bool.eq_iff_iff]; simp
  have eN : (isN v != v.n) = !bN := by rw [hbN, Bool.eq_iff_iff]; simp
  have eS : ((isS v).toList == v.s.toList) = bS := by
    rw [hbS]
    by_cases h : isS v = v.s
    · rw [bytes_beq_yes h]; simp [h]
    · rw [bytes_beq_no h]; simp [h]
  obtain ⟨bC, hC⟩ : ∃ b, b = (!bG && bL && bK && bY && bN && bS && bV && bQ) := ⟨_, rfl⟩
  rw [← hC] at hO
  have HO2 := Lib.hid hO
  have HG := Lib.hid hG
  have HC := Lib.hid hC
  have HKd := Lib.hid hkind
  clear hO hG hbL hbK hbY hbN hbS hbV hbQ hC hkind
  go_upto_region 16 with fail
  go_cut [104] from 42 to 103 (fun p wx => p = .bool (!bC) ∧ Below wc.heap.size wc wx)
  case first =>
    have HRf := Lib.hid (Below.refl wc.heap.size wc)
    clear HI HL HR HO2 HBc HKd
    have hg := HG.out
    clear HG
    by_cases hd1 : d < 1
    · have qd : (d : Int) < 1 := by omega
      by_cases k4 : v.kind = 4
      · have q4 : (v.kind == 4) = true := by simpa using k4
        rw [decide_eq_true hd1, decide_eq_true (Or.inl k4)] at hg
        subst hg
        clear k4 hd1
        have HQ : Hid (bC = false) := Lib.hid (by rw [HC.out]; rfl)
        clear HC
        go_wp2_with fail
        go_meet
        exact ⟨by rw [HQ.out]; rfl, HRf.out⟩
      have q4 : (v.kind == 4) = false := by simpa using k4
      by_cases k5 : v.kind = 5
      · have q5 : (v.kind == 5) = true := by simpa using k5
        rw [decide_eq_true hd1, decide_eq_true (Or.inr k5)] at hg
        subst hg
        clear k4 k5 hd1
        have HQ : Hid (bC = false) := Lib.hid (by rw [HC.out]; rfl)
        clear HC
        go_wp2_with fail
        go_meet
        exact ⟨by rw [HQ.out]; rfl, HRf.out⟩
      have q5 : (v.kind == 5) = false := by simpa using k5
      rw [decide_eq_false (show ¬ (v.kind = 4 ∨ v.kind = 5) by rintro (h | h); exact k4 h; exact k5 h), Bool.and_false] at hg
      subst hg
      clear k4 k5 hd1
      cases bL with
      | false =>
        have HQ : Hid (bC = false) := Lib.hid (by rw [HC.out]; rfl)
        clear HC
        go_wp2_with fail
        go_meet
        exact ⟨by rw [HQ.out]; rfl, HRf.out⟩
      | true =>
        cases bK with
        | false =>
          have HQ : Hid (bC = false) := Lib.hid (by rw [HC.out]; rfl)
          clear HC
          go_wp2_with fail
          go_meet
          exact ⟨by rw [HQ.out]; rfl, HRf.out⟩
        | true =>
          cases bY with
          | false =>
            have HQ : Hid (bC = false) := Lib.hid (by rw [HC.out]; rfl)
            clear HC
            go_wp2_with fail
            go_meet
            exact ⟨by rw [HQ.out]; rfl, HRf.out⟩
          | true =>
            cases bN with
            | false =>
              have HQ : Hid (bC = false) := Lib.hid (by rw [HC.out]; rfl)
              clear HC
              go_wp2_with fail
              go_meet
              exact ⟨by rw [HQ.out]; rfl, HRf.out⟩
            | true =>
              cases bS with
              | false =>
                have HQ : Hid (bC = false) := Lib.hid (by rw [HC.out]; rfl)
                clear HC
                go_wp2_with fail
                go_meet
                exact ⟨by rw [HQ.out]; rfl, HRf.out⟩
              | true =>
                cases bV with
                | false =>
                  have HQ : Hid (bC = false) := Lib.hid (by rw [HC.out]; rfl)
                  clear HC
                  go_wp2_with fail
                  refine (HV.out _).mono ?_
                  rintro e w1 ⟨rfl, rfl⟩
                  go_wp2_with fail
                  go_meet
                  exact ⟨by rw [HQ.out]; rfl, HRf.out⟩
                | true =>
                  cases bQ with
                  | false =>
                    have HQ : Hid (bC = false) := Lib.hid (by rw [HC.out]; rfl)
                    clear HC
                    go_wp2_with fail
                    refine (HV.out _).mono ?_
                    rintro e w1 ⟨rfl, rfl⟩
                    go_wp2_with fail
                    refine HKy.out.mono ?_
                    rintro e w2 ⟨rfl, hb2⟩
                    have HB2 := Lib.hid hb2
                    clear hb2
                    go_wp2_with fail
                    go_meet
                    exact ⟨by rw [HQ.out]; rfl, HB2.out⟩
                  | true =>
                    have HQ : Hid (bC = true) := Lib.hid (by rw [HC.out]; rfl)
                    clear HC
                    go_wp2_with fail
                    refine (HV.out _).mono ?_
                    rintro e w1 ⟨rfl, rfl⟩
                    go_wp2_with fail
                    refine HKy.out.mono ?_
                    rintro e w2 ⟨rfl, hb2⟩
                    have HB2 := Lib.hid hb2
                    clear hb2
                    go_wp2_with fail
                    go_meet
                    exact ⟨by rw [HQ.out]; rfl, HB2.out⟩
    · have qd : ¬ (d : Int) < 1 := by omega
      rw [decide_eq_false hd1, Bool.false_and] at hg
      subst hg
      clear hd1
      cases bL with
      | false =>
        have HQ : Hid (bC = false) := Lib.hid (by rw [HC.out]; rfl)
        clear HC
        go_wp2_with fail
        go_meet
        exact ⟨by rw [HQ.out]; rfl, HRf.out⟩
      | true =>
        cases bK with
        | false =>
          have HQ : Hid (bC = false) := Lib.hid (by rw [HC.out]; rfl)
          clear HC
          go_wp2_with fail
          go_meet
          exact ⟨by rw [HQ.out]; rfl, HRf.out⟩
        | true =>
          cases bY with
          | false =>
            have HQ : Hid (bC = false) := Lib.hid (by rw [HC.out]; rfl)
            clear HC
            go_wp2_with fail
            go_meet
            exact ⟨by rw [HQ.out]; rfl, HRf.out⟩
          | true =>
            cases bN with
            | false =>
              have HQ : Hid (bC = false) := Lib.hid (by rw [HC.out]; rfl)
              clear HC
              go_wp2_with fail
              go_meet
              exact ⟨by rw [HQ.out]; rfl, HRf.out⟩
            | true =>
              cases bS with
              | false =>
                have HQ : Hid (bC = false) := Lib.hid (by rw [HC.out]; rfl)
                clear HC
                go_wp2_with fail
                go_meet
                exact ⟨by rw [HQ.out]; rfl, HRf.out⟩
              | true =>
                cases bV with
                | false =>
                  have HQ : Hid (bC = false) := Lib.hid (by rw [HC.out]; rfl)
                  clear HC
                  go_wp2_with fail
                  refine (HV.out _).mono ?_
                  rintro e w1 ⟨rfl, rfl⟩
                  go_wp2_with fail
                  go_meet
                  exact ⟨by rw [HQ.out]; rfl, HRf.out⟩
                | true =>
                  cases bQ with
                  | false =>
                    have HQ : Hid (bC = false) := Lib.hid (by rw [HC.out]; rfl)
                    clear HC
                    go_wp2_with fail
                    refine (HV.out _).mono ?_
                    rintro e w1 ⟨rfl, rfl⟩
                    go_wp2_with fail
                    refine HKy.out.mono ?_
                    rintro e w2 ⟨rfl, hb2⟩
                    have HB2 := Lib.hid hb2
                    clear hb2
                    go_wp2_with fail
                    go_meet
                    exact ⟨by rw [HQ.out]; rfl, HB2.out⟩
                  | true =>
                    have HQ : Hid (bC = true) := Lib.hid (by rw [HC.out]; rfl)
                    clear HC
                    go_wp2_with fail
                    refine (HV.out _).mono ?_
                    rintro e w1 ⟨rfl, rfl⟩
                    go_wp2_with fail
                    refine HKy.out.mono ?_
                    rintro e w2 ⟨rfl, hb2⟩
                    have HB2 := Lib.hid hb2
                    clear hb2
                    go_wp2_with fail
                    go_meet
                    exact ⟨by rw [HQ.out]; rfl, HB2.out⟩
  case rest =>
  obtain ⟨rfl, hbx⟩ := hcut
  have y0 := cells_keep hbx a0
  have y4 := cells_keep hbx a4
  have y5 := cells_keep hbx a5
  have HB3 := Lib.hid (HBc.out.trans (hbx.mono HBc.out.size))
  have hl3 : w.heap.size + 1 < wc.heap.size := Nat.lt_of_lt_of_le hlc hbx.size
  have hl4 : w.heap.size < wc.heap.size := by omega
  clear a0 a1 a2 a3 a4 a5 i1 i2 i3 i4 i5 HBc hbx hlc hlc0 HV HKy eL eK eY eN eS HG
  obtain ⟨bD, hD⟩ : ∃ b, b = (decide (v.kind = 5) && decide (v.keys.length ≠ v.l.length)) := ⟨_, rfl⟩
  have hO := HO2.out
  rw [← hD] at hO
  obtain ⟨bX, hX⟩ : ∃ bX, bX = !bC := ⟨_, rfl⟩
  rw [← hX]
  have hX2 : bC = !bX := by rw [hX, Bool.not_not]
  rw [hX2] at hO
  have HO3 := Lib.hid hO
  have HD := Lib.hid hD
  clear hO hD HO2 hX hX2 HC
  cases bX with
  | true =>
    have HE : Hid (rightJ d v = false) := Lib.hid (by rw [HR.out, HO3.out]; rfl)
    go_wp2_with fail
    go_ret
    exact ⟨by rw [HE.out]; rfl, HB3.out⟩
  | false =>
  go_upto_region 18 with fail
  go_cut [116] from 105 to 115 (fun p wx => p = .bool bD ∧ wx = wc)
  case first =>
    have hd2 := HD.out
    by_cases k5 : v.kind = 5
    · have q5 : (v.kind == 5) = true := by simpa using k5
      by_cases hkl : v.keys.length = v.l.length
      · have q6 : ((v.keys.length : Int) != (v.l.length : Int)) = false := by simp; omega
        rw [decide_eq_true k5, decide_eq_false (fun h => h hkl)] at hd2
        have HQ := Lib.hid hd2
        clear hd2 k5 hkl
        go_wp2_with fail
        go_meet
        exact ⟨by rw [HQ.out]; rfl, rfl⟩
      · have q6 : ((v.keys.length : Int) != (v.l.length : Int)) = true := by simp; omega
        rw [decide_eq_true k5, decide_eq_true hkl] at hd2
        have HQ := Lib.hid hd2
        clear hd2 k5 hkl
        go_wp2_with fail
        go_meet
        exact ⟨by rw [HQ.out]; rfl, rfl⟩
    · have q5 : (v.kind == 5) = false := by simpa using k5
      rw [decide_eq_false k5, Bool.false_and] at hd2
      have HQ := Lib.hid hd2
      clear hd2 k5
      go_wp2_with fail
      go_meet
      exact ⟨by rw [HQ.out], rfl⟩
  case rest =>
  obtain ⟨rfl, rfl⟩ := hcut
  cases bD with
  | true =>
    have HE : Hid (rightJ d v = false) := Lib.hid (by rw [HR.out, HO3.out]; rfl)
    go_wp2_with fail
    go_ret
    exact ⟨by rw [HE.out]; rfl, HB3.out⟩
  | false =>
    have hown : ownJ d v = true := by rw [HO3.out]; rfl
    have HE : Hid (rightJ d v = v.l.all (rightJ (d - 1))) := Lib.hid (by rw [HR.out, HO3.out]; rfl)
    have HH : Hid (∀ x ∈ v.l, ∃ d', d = d' + 1 ∧ RRightAt d' x) := Lib.hid (by
      intro x hx
      cases d with
      | zero => rw [own_zero hown] at hx; cases hx
      | succ d => exact ⟨d, rfl, HI.out d rfl x hx⟩)
    clear hown HO3 HD
    go_wp2_with fail
    go_loopw [6] (fun i wr => ∃ (k : Nat), i = .int .i64 k ∧ k ≤ v.l.length ∧ Hid ((v.l.take k).all (rightJ (d - 1)) = true) ∧ Hid (Below wc.heap.size wc wr)) (fun i _ => v.l.length - (intOf i).toNat)
    case atStart => exact ⟨0, rfl, Nat.zero_le _, Lib.hid rfl, Lib.hid (Below.refl _ _)⟩
    case round =>
      obtain ⟨k, rfl, hk, HP, HK⟩ := hrel
      have i0 : (0 : Int) ≤ (k : Int) := by omega
      have g5 := cells_keep HK.out y5
      have hlow := Lib.hid (HB3.out.trans (HK.out.mono HB3.out.size))
      by_cases h1 : k < v.l.length
      · have i1 : (k : Int) < (v.l.length : Int) := by omega
        have gx := List.getElem?_eq_getElem (l := v.l) (i := k) h1
        obtain ⟨d', hd', hR⟩ := HH.out _ (List.getElem_mem h1)
        have hst : (v.l.take (k + 1)).all (rightJ d') = ((v.l.take k).all (rightJ d') && rightJ d' (v.l[k]'h1)) := by rw [List.take_add_one, gx, List.all_append]; simp
        have hall : rightJ d' (v.l[k]'h1) = false → v.l.all (rightJ d') = false := fun h => by
          rw [List.all_eq_false]
          exact ⟨_, List.getElem_mem h1, by simp [h]⟩
        generalize v.l[k]'h1 = x at *
        obtain ⟨b1, o1, cs, rfl, hc1, hJ1⟩ := (HL.out.below hlow.out) k x gx
        have HC := Lib.hid (hR cs wr hJ1)
        obtain ⟨A2, c2, B2, d2, rfl, _, _, _, _, e0, e1, e2, e3, e4, e5⟩ := six (off := o1 + k * 6) hJ1 hc1
        have w1 : IntKind.i64.wrap ((d : Int) - 1) = (d' : Int) := by rw [IntWalk.i64_in] <;> omega
        have w2 : (d : Int) - 1 = (d' : Int) := by omega
        have hdd : d - 1 = d' := by omega
        rw [hdd] at HP HE
        have HST := Lib.hid hst
        have HA := Lib.hid hall
        have HDD := Lib.hid hdd
        clear hc1 gx hJ1 hR hst hall hdd hd'
        cases hr : rightJ d' x with
        | false =>
          rw [hr] at HC
          have HE2 := Lib.hid (HE.out.trans (HA.out hr))
          clear HA HST
          go_wp2_with fail
          refine HC.out.mono ?_
          rintro e w1 ⟨rfl, hb1⟩
          have HK1 := Lib.hid (hlow.out.trans (hb1.mono hlow.out.size))
          clear hb1
          go_wp2_with fail
          go_ret
          exact ⟨by rw [HE2.out]; rfl, HK1.out⟩
        | true =>
          rw [hr] at HC
          have HE2 : Hid ((v.l.take (k + 1)).all (rightJ (d - 1)) = true) := Lib.hid (by rw [HDD.out, HST.out, HP.out, hr]; rfl)
          clear HA HST
          go_wp2_with fail
          refine HC.out.mono ?_
          rintro e w1 ⟨rfl, hb1⟩
          have HK1 := Lib.hid (HK.out.trans (hb1.mono HK.out.size))
          clear hb1
          go_wp2_with fail
          go_roundw
          case rel => exact ⟨k + 1, by go_num, by omega, HE2, HK1⟩
          case measure => simp [intOf]; omega
      · obtain rfl : k = v.l.length := by omega
        have HE2 : Hid (rightJ d v = true) := Lib.hid (by have := HP.out; rw [List.take_length] at this; rw [HE.out, this])
        go_wp2_with fail
        go_ret
        exact ⟨by rw [HE2.out]; rfl, hlow.out⟩
theorem rright_any (M : Nat) (hM : M ≤ 1000000) (v : Js) : ∀ d, d ≤ 1000 → okJ M v → RRightAt d v := by
  induction v using Js.ind with
  | _ v ih =>
    intro d hd hok
    exact rright_step M hM v hok d hd (fun d' e x hx => ih x hx d' (by omega) ((okJ_iff.1 hok).2.2.2.2.2 x hx))
set_option maxHeartbeats 1000000 in
theorem RRight_any (M : Nat) (hM : M ≤ 1000000) (v : Js) (hok : okJ M v) (cs : List Value) (w : World) (hJ : JC w v cs) :
    Calls Tryz.prog 23 #[.agg cs.toArray] w fun e w' => e = .returned (.bool (rightJ 64 v)) ∧ Below w.heap.size w w' := by
  have HB := Lib.hid (fun o => below_new w o)
  have HJ := Lib.hid hJ
  have HH := Lib.hid (rright_any M hM v 64 (by omega) hok)
  obtain ⟨A1, c1, B1, d1, rfl, hS1, hc1, hd1, hL1⟩ := JC_iff.1 hJ
  clear hS1 hL1 hJ
  unfold RRightAt at HH
  go_enter Tryz.func23, Tryz.ntmps23
  go_wp2_with fail
  refine (HH.out _ _ (HJ.out.keep (HB.out _))).mono ?_
  rintro e w1 ⟨rfl, hb1⟩
  have HB1 := Lib.hid ((HB.out _).trans (hb1.mono (HB.out _).size))
  clear hb1
  go_wp2_with fail
  go_ret
  exact ⟨rfl, HB1.out⟩
end Go.Proofs.YtamclieppbnpiaaGreatDoor
