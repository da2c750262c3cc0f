/-
  Three words: by the program.
-/
import Derived.Test.YtamclieppbnpiabGreatDoorProg
import Derived.Test.YtamclieppbnpiabGreatDoorReg
import Derived.WalkKit
import Derived.WalkSpells
import Derived.WalkLawsBesides
import Derived.Lib.Hide
import Derived.Lib.MinMax
import Derived.Deep.QuietTactic
import Derived.BigQuiet
import Derived.OwnWalk
import Derived.Deep.AppendLies
import Derived.KernelRfl
import Derived.Test.YtamclieppbnpiabGreatDoorMap
import Derived.Test.YtamclieppbnpiabGreatDoorJw16
set_option linter.unusedSimpArgs false
set_option linter.unusedVariables false
namespace Go.Proofs.YtamclieppbnpiabGreatDoor
open Go Go.RowKit Go.Maps
open Fz (HoldsS)

/-- One of three words. -/
def litL (l : List UInt8) : Option ((Int × Bool) × List UInt8) :=
  match takeP [110, 117, 108, 108] l with
  | some r => some ((0, false), r)
  | none => match takeP [116, 114, 117, 101] l with
    | some r => some ((1, true), r)
    | none => match takeP [102, 97, 108, 115, 101] l with
      | some r => some ((1, false), r)
      | none => none
theorem plain_lit (l : List UInt8) : plainL l = match litL l with
    | some (p, r) => .ok (.mk p.1 p.2 0 ByteArray.empty [] [], r)
    | none => match digitL l with | .error e => .error e | .ok (n, r) => .ok (numJ n, r) := by
  unfold plainL litL
  cases takeP [110, 117, 108, 108] l with
  | some r => rfl
  | none => cases takeP [116, 114, 117, 101] l with
    | some r => rfl
    | none => cases takeP [102, 97, 108, 115, 101] l with
      | some r => rfl
      | none => rfl
def litV (k : Int) (y : Bool) : Value := .agg #[.int .i64 k, .bool y, .int .i64 0, .string ⟨#[]⟩, .slice none 0 0, .slice none 0 0]
/-- What the words' reading leaves. -/
def LitPost (R : Nat) (l : List UInt8) (nest : Int) (o : Option ((Int × Bool) × List UInt8)) (e : Ending) (w w' : World) : Prop :=
  match o with
  | some (p, q) => e = .returned (.tuple #[litV p.1 p.2, .bool true]) ∧ Steps w w' R q nest .nilIface
  | none => e = .returned (.tuple #[litV 0 false, .bool false]) ∧ Steps w w' R l nest .nilIface
theorem lit_look0 : (if (⟨#[110, 117, 108, 108]⟩ : ByteArray) = ⟨#[102, 97, 108, 115, 101]⟩ then some (litV 1 false) else if (⟨#[110, 117, 108, 108]⟩ : ByteArray) = ⟨#[116, 114, 117, 101]⟩ then some (litV 1 true) else none) = none := by rw [if_neg (by decide), if_neg (by decide)]
theorem lit_look1 : (if (⟨#[116, 114, 117, 101]⟩ : ByteArray) = ⟨#[102, 97, 108, 115, 101]⟩ then some (litV 1 false) else if (⟨#[116, 114, 117, 101]⟩ : ByteArray) = ⟨#[116, 114, 117, 101]⟩ then some (litV 1 true) else none) = some (litV 1 true) := by rw [if_neg (by decide), if_pos rfl]
theorem lit_look2 : (if (⟨#[102, 97, 108, 115, 101]⟩ : ByteArray) = ⟨#[102, 97, 108, 115, 101]⟩ then some (litV 1 false) else if (⟨#[102, 97, 108, 115, 101]⟩ : ByteArray) = ⟨#[116, 114, 117, 101]⟩ then some (litV 1 true) else none) = some (litV 1 false) := by rw [if_pos rfl]
set_option maxRecDepth 100000 in
set_option maxHeartbeats 8000000 in
theorem literal_any (R B : Nat) (l : List UInt8) (nest : Int) (w : World) (o : Option ((Int × Bool) × List UInt8)) (ho : litL l = o) (h : RdAt w R l nest .nilIface)
    (hB : w.heap[B]? = some (.cells #[.string ⟨#[110, 117, 108, 108]⟩, .string ⟨#[116, 114, 117, 101]⟩, .string ⟨#[102, 97, 108, 115, 101]⟩] sK (0, 0))) (hRB : B ≠ R) :
    Calls Tryz.prog 39 #[.pointer (some ⟨R, 0, none⟩), .slice (some ⟨B, 0, none⟩) 3 3] w fun e w' => LitPost R l nest o e w w' := by
  have lR := h.lt
  have lB := (Array.getElem?_eq_some_iff.1 hB).1
  have hmm := @run_makeMap Tryz.prog
  have hk := Tryz.underlying9
  have ht := Tryz.underlying111
  unfold litL at ho
  have hX0 := heap_alloc_new w (.cells #[.int .i64 0, .bool false, .int .i64 0, .string ⟨#[]⟩, .slice none 0 0, .slice none 0 0] tJ)
  have hb0 := below_new w (.cells #[.int .i64 0, .bool false, .int .i64 0, .string ⟨#[]⟩, .slice none 0 0, .slice none 0 0] tJ)
  have hz0 : (w.alloc (.cells #[.int .i64 0, .bool false, .int .i64 0, .string ⟨#[]⟩, .slice none 0 0, .slice none 0 0] tJ)).heap.size = w.heap.size + 1 := by simp
  have hS0 : Steps w (w.alloc (.cells #[.int .i64 0, .bool false, .int .i64 0, .string ⟨#[]⟩, .slice none 0 0, .slice none 0 0] tJ)) R l nest .nilIface := ⟨h.below hb0, but_below' hb0⟩
  have hB0 := (hb0.block B lB).trans hB
  clear hb0
  go_enter Tryz.func39, Tryz.ntmps39
  go_wp2_with fail
  refine wp_loop_rounds 4 ?_
  rw [rounds_succ]
  generalize w.alloc (.cells #[.int .i64 0, .bool false, .int .i64 0, .string ⟨#[]⟩, .slice none 0 0, .slice none 0 0] tJ) = w0 at *
  have HS0 := Lib.hid hS0
  have HX0 := Lib.hid hX0
  have HB0 := Lib.hid hB0
  have HZ0 := Lib.hid hz0
  clear hS0 hX0 hB0 hz0 h hB
  have HT1 := take_any R [110, 117, 108, 108] l nest .nilIface w0 HS0.out.1
  have s0_0 := HB0.out
  have p0_0 : w0.cell? ⟨B, 0, none⟩ = some (.string ⟨#[110, 117, 108, 108]⟩) := by simp [World.cell?, s0_0]
  have p1_0 : w0.cell? ⟨B, 1, none⟩ = some (.string ⟨#[116, 114, 117, 101]⟩) := by simp [World.cell?, s0_0]
  have p2_0 : w0.cell? ⟨B, 2, none⟩ = some (.string ⟨#[102, 97, 108, 115, 101]⟩) := by simp [World.cell?, s0_0]
  have lR_0 := HS0.out.1.lt
  clear s0_0
  cases hq : takeP [110, 117, 108, 108] l with
  | some q =>
    rw [hq] at ho
    simp only at ho
    have HO : Hid (o = some ((0, false), q)) := Lib.hid ho.symm
    rw [hq] at HT1
    have HT := Lib.hid HT1
    clear HT1 hq ho
    go_wp2_with fail
    refine HT.out.mono ?_
    rintro e w1 ⟨rfl, hs⟩
    have hS := HS0.out.trans hs
    have hX := (hs.2.block w.heap.size (by have := HZ0.out; have := HS0.out.2.size; have := (Array.getElem?_eq_some_iff.1 HX0.out).1; omega) (by omega)).trans HX0.out
    have lX := (Array.getElem?_eq_some_iff.1 hX).1
    have hb0 : Below w1.heap.size w1 (w1.alloc (.map #[] 0)) := below_new w1 _
    have st : ∀ {p q : World}, Below w1.heap.size w1 p → p.grownBy q (some w1.heap.size) → Below w1.heap.size w1 q := fun hp hg => hp.grown hg hp.size (fun k hk => by cases hk; omega)
    obtain ⟨u1, r1, m1, g1⟩ := (MapIs.made w1 Tryz.prog 9).put hk ht (by unfold maxLen; omega) ⟨#[116, 114, 117, 101]⟩ (by decide) (litV 1 true)
    have hb1 := st hb0 g1
    obtain ⟨u2, r2, m2, g2⟩ := m1.put hk ht (by unfold maxLen; omega) ⟨#[102, 97, 108, 115, 101]⟩ (by decide) (litV 1 false)
    have hb2 := st hb1 g2
    have hget := m2.get false hk ht (z := litV 0 false) (by kernel_rfl) ⟨#[110, 117, 108, 108]⟩ (by decide)
    rw [lit_look0] at hget
    have hS2 : Steps w u2 R q nest .nilIface := ⟨hS.1.below hb2, but_trans hS.2 (but_below' hb2) hS.2.size⟩
    have hX2 := (hb2.block _ lX).trans hX
    obtain ⟨x0, x1, x2, x3, x4, x5⟩ := six_at hX2
    have z2 := fun j => frozen_of_row u2 _ j _ _ hX2
    have lX2 := (Array.getElem?_eq_some_iff.1 hX2).1
    have HX2 := Lib.hid hX2
    have HS2 := Lib.hid hS2
    clear hS hX lX hb0 st hb1 g1 m1 hb2 g2 m2 hS2 hX2 hs
    unfold litV at r1 r2 hget
    simp only [Bool.false_eq_true, if_false] at hget
    go_wp2_with fail
    have hR9 := set6 (b0 := .int .i64 0) (b1 := .bool false) (b2 := .int .i64 0) (b3 := .string ⟨#[]⟩) (b4 := .slice none 0 0) (b5 := .slice none 0 0) HX2.out
    have hS9 := set6_steps HS2.out (Nat.le_refl _) lR (.int .i64 0) (.bool false) (.int .i64 0) (.string ⟨#[]⟩) (.slice none 0 0) (.slice none 0 0)
    generalize ((((((u2.setCell ⟨w.heap.size, 0, none⟩ (.int .i64 0)).setCell ⟨w.heap.size, 1, none⟩ (.bool false)).setCell ⟨w.heap.size, 2, none⟩ (.int .i64 0)).setCell ⟨w.heap.size, 3, none⟩ (.string ⟨#[]⟩)).setCell ⟨w.heap.size, 4, none⟩ (.slice none 0 0)).setCell ⟨w.heap.size, 5, none⟩ (.slice none 0 0)) = W9 at *
    obtain ⟨y0, y1, y2, y3, y4, y5⟩ := six_at hR9
    rw [HO.out]
    exact bodyPost_ret (v := .tuple #[litV 0 false, .bool true]) (by simp [litV, results, Tryz.results39, go_sem, y0, y1, y2, y3, y4, y5]) rfl ⟨rfl, hS9⟩
  | none =>
    rw [hq] at ho
    rw [hq] at HT1
    have HT := Lib.hid HT1
    simp only at ho
    clear HT1 hq
    go_wp2_with fail
    refine HT.out.mono ?_
    rintro e w1 ⟨rfl, hs⟩
    have HS1 := Lib.hid (show Steps w w1 R l nest .nilIface from HS0.out.trans hs)
    have HX1 := Lib.hid ((hs.2.block w.heap.size (by have := (Array.getElem?_eq_some_iff.1 HX0.out).1; omega) (by omega)).trans HX0.out)
    have HB1 := Lib.hid ((hs.2.block B (by have := (Array.getElem?_eq_some_iff.1 HB0.out).1; omega) hRB).trans HB0.out)
    clear hs HT
    go_wp2_with fail
    rw [rounds_succ]
    have HT2 := take_any R [116, 114, 117, 101] l nest .nilIface w1 HS1.out.1
    have s0_1 := HB1.out
    have p0_1 : w1.cell? ⟨B, 0, none⟩ = some (.string ⟨#[110, 117, 108, 108]⟩) := by simp [World.cell?, s0_1]
    have p1_1 : w1.cell? ⟨B, 1, none⟩ = some (.string ⟨#[116, 114, 117, 101]⟩) := by simp [World.cell?, s0_1]
    have p2_1 : w1.cell? ⟨B, 2, none⟩ = some (.string ⟨#[102, 97, 108, 115, 101]⟩) := by simp [World.cell?, s0_1]
    have lR_1 := HS1.out.1.lt
    clear s0_1
    cases hq : takeP [116, 114, 117, 101] l with
    | some q =>
      rw [hq] at ho
      simp only at ho
      have HO : Hid (o = some ((1, true), q)) := Lib.hid ho.symm
      rw [hq] at HT2
      have HT := Lib.hid HT2
      clear HT2 hq ho
      go_wp2_with fail
      refine HT.out.mono ?_
      rintro e w2 ⟨rfl, hs⟩
      have hS := HS1.out.trans hs
      have hX := (hs.2.block w.heap.size (by have := HZ0.out; have := HS1.out.2.size; have := (Array.getElem?_eq_some_iff.1 HX1.out).1; omega) (by omega)).trans HX1.out
      have lX := (Array.getElem?_eq_some_iff.1 hX).1
      have hb0 : Below w2.heap.size w2 (w2.alloc (.map #[] 0)) := below_new w2 _
      have st : ∀ {p q : World}, Below w2.heap.size w2 p → p.grownBy q (some w2.heap.size) → Below w2.heap.size w2 q := fun hp hg => hp.grown hg hp.size (fun k hk => by cases hk; omega)
      obtain ⟨u1, r1, m1, g1⟩ := (MapIs.made w2 Tryz.prog 9).put hk ht (by unfold maxLen; omega) ⟨#[116, 114, 117, 101]⟩ (by decide) (litV 1 true)
      have hb1 := st hb0 g1
      obtain ⟨u2, r2, m2, g2⟩ := m1.put hk ht (by unfold maxLen; omega) ⟨#[102, 97, 108, 115, 101]⟩ (by decide) (litV 1 false)
      have hb2 := st hb1 g2
      have hget := m2.get false hk ht (z := litV 0 false) (by kernel_rfl) ⟨#[116, 114, 117, 101]⟩ (by decide)
      rw [lit_look1] at hget
      have hS2 : Steps w u2 R q nest .nilIface := ⟨hS.1.below hb2, but_trans hS.2 (but_below' hb2) hS.2.size⟩
      have hX2 := (hb2.block _ lX).trans hX
      obtain ⟨x0, x1, x2, x3, x4, x5⟩ := six_at hX2
      have z2 := fun j => frozen_of_row u2 _ j _ _ hX2
      have lX2 := (Array.getElem?_eq_some_iff.1 hX2).1
      have HX2 := Lib.hid hX2
      have HS2 := Lib.hid hS2
      clear hS hX lX hb0 st hb1 g1 m1 hb2 g2 m2 hS2 hX2 hs
      unfold litV at r1 r2 hget
      simp only [Bool.false_eq_true, if_false] at hget
      go_wp2_with fail
      have hR9 := set6 (b0 := .int .i64 1) (b1 := .bool true) (b2 := .int .i64 0) (b3 := .string ⟨#[]⟩) (b4 := .slice none 0 0) (b5 := .slice none 0 0) HX2.out
      have hS9 := set6_steps HS2.out (Nat.le_refl _) lR (.int .i64 1) (.bool true) (.int .i64 0) (.string ⟨#[]⟩) (.slice none 0 0) (.slice none 0 0)
      generalize ((((((u2.setCell ⟨w.heap.size, 0, none⟩ (.int .i64 1)).setCell ⟨w.heap.size, 1, none⟩ (.bool true)).setCell ⟨w.heap.size, 2, none⟩ (.int .i64 0)).setCell ⟨w.heap.size, 3, none⟩ (.string ⟨#[]⟩)).setCell ⟨w.heap.size, 4, none⟩ (.slice none 0 0)).setCell ⟨w.heap.size, 5, none⟩ (.slice none 0 0)) = W9 at *
      obtain ⟨y0, y1, y2, y3, y4, y5⟩ := six_at hR9
      rw [HO.out]
      exact bodyPost_ret (v := .tuple #[litV 1 true, .bool true]) (by simp [litV, results, Tryz.results39, go_sem, y0, y1, y2, y3, y4, y5]) rfl ⟨rfl, hS9⟩
    | none =>
      rw [hq] at ho
      rw [hq] at HT2
      have HT := Lib.hid HT2
      simp only at ho
      clear HT2 hq
      go_wp2_with fail
      refine HT.out.mono ?_
      rintro e w2 ⟨rfl, hs⟩
      have HS2 := Lib.hid (show Steps w w2 R l nest .nilIface from HS1.out.trans hs)
      have HX2 := Lib.hid ((hs.2.block w.heap.size (by have := (Array.getElem?_eq_some_iff.1 HX1.out).1; omega) (by omega)).trans HX1.out)
      have HB2 := Lib.hid ((hs.2.block B (by have := (Array.getElem?_eq_some_iff.1 HB1.out).1; omega) hRB).trans HB1.out)
      clear hs HT
      go_wp2_with fail
      rw [rounds_succ]
      have HT3 := take_any R [102, 97, 108, 115, 101] l nest .nilIface w2 HS2.out.1
      have s0_2 := HB2.out
      have p0_2 : w2.cell? ⟨B, 0, none⟩ = some (.string ⟨#[110, 117, 108, 108]⟩) := by simp [World.cell?, s0_2]
      have p1_2 : w2.cell? ⟨B, 1, none⟩ = some (.string ⟨#[116, 114, 117, 101]⟩) := by simp [World.cell?, s0_2]
      have p2_2 : w2.cell? ⟨B, 2, none⟩ = some (.string ⟨#[102, 97, 108, 115, 101]⟩) := by simp [World.cell?, s0_2]
      have lR_2 := HS2.out.1.lt
      clear s0_2
      cases hq : takeP [102, 97, 108, 115, 101] l with
      | some q =>
        rw [hq] at ho
        simp only at ho
        have HO : Hid (o = some ((1, false), q)) := Lib.hid ho.symm
        rw [hq] at HT3
        have HT := Lib.hid HT3
        clear HT3 hq ho
        go_wp2_with fail
        refine HT.out.mono ?_
        rintro e w3 ⟨rfl, hs⟩
        have hS := HS2.out.trans hs
        have hX := (hs.2.block w.heap.size (by have := HZ0.out; have := HS2.out.2.size; have := (Array.getElem?_eq_some_iff.1 HX2.out).1; omega) (by omega)).trans HX2.out
        have lX := (Array.getElem?_eq_some_iff.1 hX).1
        have hb0 : Below w3.heap.size w3 (w3.alloc (.map #[] 0)) := below_new w3 _
        have st : ∀ {p q : World}, Below w3.heap.size w3 p → p.grownBy q (some w3.heap.size) → Below w3.heap.size w3 q := fun hp hg => hp.grown hg hp.size (fun k hk => by cases hk; omega)
        obtain ⟨u1, r1, m1, g1⟩ := (MapIs.made w3 Tryz.prog 9).put hk ht (by unfold maxLen; omega) ⟨#[116, 114, 117, 101]⟩ (by decide) (litV 1 true)
        have hb1 := st hb0 g1
        obtain ⟨u2, r2, m2, g2⟩ := m1.put hk ht (by unfold maxLen; omega) ⟨#[102, 97, 108, 115, 101]⟩ (by decide) (litV 1 false)
        have hb2 := st hb1 g2
        have hget := m2.get false hk ht (z := litV 0 false) (by kernel_rfl) ⟨#[102, 97, 108, 115, 101]⟩ (by decide)
        rw [lit_look2] at hget
        have hS2 : Steps w u2 R q nest .nilIface := ⟨hS.1.below hb2, but_trans hS.2 (but_below' hb2) hS.2.size⟩
        have hX2 := (hb2.block _ lX).trans hX
        obtain ⟨x0, x1, x2, x3, x4, x5⟩ := six_at hX2
        have z2 := fun j => frozen_of_row u2 _ j _ _ hX2
        have lX2 := (Array.getElem?_eq_some_iff.1 hX2).1
        have HX2 := Lib.hid hX2
        have HS2 := Lib.hid hS2
        clear hS hX lX hb0 st hb1 g1 m1 hb2 g2 m2 hS2 hX2 hs
        unfold litV at r1 r2 hget
        simp only [Bool.false_eq_true, if_false] at hget
        go_wp2_with fail
        have hR9 := set6 (b0 := .int .i64 1) (b1 := .bool false) (b2 := .int .i64 0) (b3 := .string ⟨#[]⟩) (b4 := .slice none 0 0) (b5 := .slice none 0 0) HX2.out
        have hS9 := set6_steps HS2.out (Nat.le_refl _) lR (.int .i64 1) (.bool false) (.int .i64 0) (.string ⟨#[]⟩) (.slice none 0 0) (.slice none 0 0)
        generalize ((((((u2.setCell ⟨w.heap.size, 0, none⟩ (.int .i64 1)).setCell ⟨w.heap.size, 1, none⟩ (.bool false)).setCell ⟨w.heap.size, 2, none⟩ (.int .i64 0)).setCell ⟨w.heap.size, 3, none⟩ (.string ⟨#[]⟩)).setCell ⟨w.heap.size, 4, none⟩ (.slice none 0 0)).setCell ⟨w.heap.size, 5, none⟩ (.slice none 0 0)) = W9 at *
        obtain ⟨y0, y1, y2, y3, y4, y5⟩ := six_at hR9
        rw [HO.out]
        exact bodyPost_ret (v := .tuple #[litV 1 false, .bool true]) (by simp [litV, results, Tryz.results39, go_sem, y0, y1, y2, y3, y4, y5]) rfl ⟨rfl, hS9⟩
      | none =>
        rw [hq] at ho
        rw [hq] at HT3
        have HT := Lib.hid HT3
        simp only at ho
        clear HT3 hq
        go_wp2_with fail
        refine HT.out.mono ?_
        rintro e w3 ⟨rfl, hs⟩
        have HS3 := Lib.hid (show Steps w w3 R l nest .nilIface from HS2.out.trans hs)
        have HX3 := Lib.hid ((hs.2.block w.heap.size (by have := (Array.getElem?_eq_some_iff.1 HX2.out).1; omega) (by omega)).trans HX2.out)
        have HB3 := Lib.hid ((hs.2.block B (by have := (Array.getElem?_eq_some_iff.1 HB2.out).1; omega) hRB).trans HB2.out)
        clear hs HT
        go_wp2_with fail
        rw [rounds_succ]
        obtain ⟨x0, x1, x2, x3, x4, x5⟩ := six_at HX3.out
        have z2 := fun j => frozen_of_row w3 _ j _ _ HX3.out
        have lX2 := (Array.getElem?_eq_some_iff.1 HX3.out).1
        go_wp2_with fail
        have hR9 := set6 (b0 := .int .i64 0) (b1 := .bool false) (b2 := .int .i64 0) (b3 := .string ⟨#[]⟩) (b4 := .slice none 0 0) (b5 := .slice none 0 0) HX3.out
        have hS9 := set6_steps HS3.out (Nat.le_refl _) lR (.int .i64 0) (.bool false) (.int .i64 0) (.string ⟨#[]⟩) (.slice none 0 0) (.slice none 0 0)
        generalize ((((((w3.setCell ⟨w.heap.size, 0, none⟩ (.int .i64 0)).setCell ⟨w.heap.size, 1, none⟩ (.bool false)).setCell ⟨w.heap.size, 2, none⟩ (.int .i64 0)).setCell ⟨w.heap.size, 3, none⟩ (.string ⟨#[]⟩)).setCell ⟨w.heap.size, 4, none⟩ (.slice none 0 0)).setCell ⟨w.heap.size, 5, none⟩ (.slice none 0 0)) = W9 at *
        obtain ⟨y0, y1, y2, y3, y4, y5⟩ := six_at hR9
        rw [← ho]
        exact bodyPost_ret (v := .tuple #[litV 0 false, .bool false]) (by simp [litV, results, Tryz.results39, go_sem, y0, y1, y2, y3, y4, y5]) rfl ⟨rfl, hS9⟩
end Go.Proofs.YtamclieppbnpiabGreatDoor
