/-
  A glyph's class: by the program.
-/
import Derived.Test.YteojnejomgomjaaDoorProg
import Derived.Test.YteojnejomgomjaaDoorReg
import Derived.WalkKit
import Derived.WalkSpells
import Derived.WalkLawsBesides
import Derived.Lib.Hide
import Derived.Lib.MinMax
import Derived.Deep.QuietTactic
import Derived.BigQuiet
import Derived.OwnWalk
import Derived.Deep.AppendLies
import Derived.KernelRfl
import Derived.Test.YteojnejomgomjaaDoorLxOn
set_option linter.unusedSimpArgs false
set_option linter.unusedVariables false
namespace Go.Proofs.YteojnejomgomjaaDoor
open Go.RowKit Go.Maps

theorem addLook_none {s : ByteArray} : ∀ (l : List Gly) (f : ByteArray → Option Value), (∀ x ∈ l, x.glyph ≠ s) → addLook f l s = f s
  | [], _, _ => rfl
  | x :: l, f, h => by
    have hx := h x List.mem_cons_self
    have ih := addLook_none l (fun y => if y = x.glyph then some x.val else f y) (fun y hy => h y (List.mem_cons_of_mem _ hy))
    show addLook (fun y => if y = x.glyph then some x.val else f y) l s = f s
    rw [ih]
    exact if_neg (fun e => hx e.symm)
theorem addLook_class {s : ByteArray} : ∀ (l : List Gly) (f : ByteArray → Option Value), (l.map Gly.glyph).Nodup → (∃ x ∈ l, x.glyph = s ∧ addLook f l s = some x.val ∧ classIn s l = x.cls) ∨ ((∀ x ∈ l, x.glyph ≠ s) ∧ addLook f l s = f s ∧ classIn s l = 0)
  | [], f, _ => .inr ⟨fun x hx => by simp at hx, rfl, rfl⟩
  | y :: l, f, h => by
    rw [List.map_cons, List.nodup_cons] at h
    have e : addLook f (y :: l) s = addLook (fun z => if z = y.glyph then some y.val else f z) l s := rfl
    by_cases hy : y.glyph = s
    · have hn : ∀ x ∈ l, x.glyph ≠ s := fun x hx e => h.1 (by rw [hy, ← e]; exact List.mem_map_of_mem hx)
      refine .inl ⟨y, List.mem_cons_self, hy, ?_, ?_⟩
      · rw [e, addLook_none l _ hn]
        exact if_pos hy.symm
      · unfold classIn
        rw [if_pos hy]
    · have e2 : classIn s (y :: l) = classIn s l := by rw [classIn]; exact if_neg hy
      rcases addLook_class l (fun z => if z = y.glyph then some y.val else f z) h.2 with ⟨x, h1, h2, h3, h4⟩ | ⟨h1, h2, h3⟩
      · exact .inl ⟨x, List.mem_cons_of_mem _ h1, h2, by rw [e]; exact h3, by rw [e2]; exact h4⟩
      · refine .inr ⟨fun x hx => ?_, ?_, by rw [e2]; exact h3⟩
        · rcases List.mem_cons.1 hx with rfl | hx
          · exact hy
          · exact h1 x hx
        · rw [e, h2]
          exact if_neg (fun e => hy e.symm)
theorem glyphs_nodup : (glyphs.map Gly.glyph).Nodup := by decide +kernel
def noGly : Gly := ⟨ByteArray.empty, ByteArray.empty, 0⟩
theorem look_class (s : ByteArray) : ∃ x : Gly, (addLook (fun _ => none) glyphs s).getD noGly.val = x.val ∧ gClass s = x.cls := by
  rcases addLook_class (s := s) glyphs (fun _ => none) glyphs_nodup with ⟨x, _, _, h3, h4⟩ | ⟨_, h2, h3⟩
  · exact ⟨x, by rw [h3]; rfl, h4⟩
  · exact ⟨noGly, by rw [h2]; rfl, h3⟩
/-- Three cells of a block are stored anew. -/
theorem set3 {w : World} {b : Nat} {a1 a2 a3 b1 b2 b3 : Value} {t : TypeId} (h : w.heap[b]? = some (.cells #[a1, a2, a3] t (0, 0))) :
    (((w.setCell ⟨b, 0, none⟩ b1).setCell ⟨b, 1, none⟩ b2).setCell ⟨b, 2, none⟩ b3).heap[b]? = some (.cells #[b1, b2, b3] t (0, 0)) := by
  have h1 := heap_setCell_same w b 0 _ _ b1 h
  have h2 := heap_setCell_same _ b 1 _ _ b2 h1
  have h3 := heap_setCell_same _ b 2 _ _ b3 h2
  rw [h3]
  simp
theorem zeroG (w : World) : (zeroValue 93).run Tryd.prog w = .ok noGly.val w := by kernel_rfl

set_option maxRecDepth 100000 in
set_option maxHeartbeats 4000000 in
theorem of_new (T : Nat) (s : ByteArray) (w : World) (hs : s.size ≤ maxLen) (hN : NewTab w T) :
    Calls Tryd.prog 46 #[.pointer (some ⟨T, 0, none⟩), .string s] w fun e w' => ∃ x : Gly, e = .returned (.agg #[.string x.glyph, .string x.letter, .int .i64 x.cls]) ∧ gClass s = x.cls ∧ KeptBut w.heap.size T w w' := by
  have hT : T < w.heap.size := (Array.getElem?_eq_some_iff.1 hN).1
  have hB := below_new w (.cells #[.string ByteArray.empty, .string ByteArray.empty, .int .i64 0] tG)
  have hX := heap_alloc_new w (.cells #[.string ByteArray.empty, .string ByteArray.empty, .int .i64 0] tG)
  have hz : (w.alloc (.cells #[.string ByteArray.empty, .string ByteArray.empty, .int .i64 0] tG)).heap.size = w.heap.size + 1 := by simp
  have HF := Lib.hid (fill_new T _ (hN.below hB))
  have hk := Tryd.underlying9
  have hmt := Tryd.underlying87
  obtain ⟨x, hx1, hx2⟩ := look_class s
  have HX1 := Lib.hid hx1
  have HX2 := Lib.hid hx2
  clear hx1 hx2 hN
  go_enter Tryd.func46, Tryd.ntmps46
  go_wp2_with fail
  refine HF.out.mono ?_
  rintro e w3 ⟨rfl, M, lv, h1, h2, h3⟩
  rw [hz] at h2
  have hX3 := (h2.block w.heap.size (by omega) (by omega)).trans hX
  have c4 : w3.cell? ⟨T, 4, none⟩ = some (.map (some M)) := by
    have := h1.row
    simp [World.cell?, this]
  have hget := h1.by_.get false hk hmt (zeroG w3) s hs
  rw [HX1.out] at hget
  have HK := Lib.hid h2
  have x0 : w3.cell? ⟨w.heap.size, 0, none⟩ = some (.string ByteArray.empty) := by simp [World.cell?, hX3]
  have x1 : w3.cell? ⟨w.heap.size, 1, none⟩ = some (.string ByteArray.empty) := by simp [World.cell?, hX3]
  have x2 : w3.cell? ⟨w.heap.size, 2, none⟩ = some (.int .i64 0) := by simp [World.cell?, hX3]
  have z0 : ∀ j, w3.frozen? ⟨w.heap.size, j, none⟩ = false := fun j => frozen_of_row w3 _ j _ _ hX3
  unfold Gly.val at hget
  simp only [Bool.false_eq_true, if_false] at hget
  clear h1 h2 h3 hB
  go_wp2_with fail
  have hX4 := set3 (b1 := .string x.glyph) (b2 := .string x.letter) (b3 := .int .i64 x.cls) hX3
  have hk4 : KeptBut w.heap.size T w (((w3.setCell ⟨w.heap.size, 0, none⟩ (.string x.glyph)).setCell ⟨w.heap.size, 1, none⟩ (.string x.letter)).setCell ⟨w.heap.size, 2, none⟩ (.int .i64 x.cls)) := by
    refine (KeptBut.of_below (below_new w (.cells #[.string ByteArray.empty, .string ByteArray.empty, .int .i64 0] tG)) (Nat.le_refl _)).trans (KeptBut.trans (b := w3) ?_ (.of_below ((((Below.refl w.heap.size w3).setCell (p := ⟨w.heap.size, 0, none⟩) (Nat.le_refl _) _).setCell (p := ⟨w.heap.size, 1, none⟩) (Nat.le_refl _) _).setCell (p := ⟨w.heap.size, 2, none⟩) (Nat.le_refl _) _) (Nat.le_refl _)))
    have h := HK.out
    exact ⟨h.os, h.tape, h.output, h.size, fun k hk1 hk2 => h.block k (by omega) hk2⟩
  generalize ((w3.setCell ⟨w.heap.size, 0, none⟩ (.string x.glyph)).setCell ⟨w.heap.size, 1, none⟩ (.string x.letter)).setCell ⟨w.heap.size, 2, none⟩ (.int .i64 x.cls) = W4 at *
  have y0 : W4.cell? ⟨w.heap.size, 0, none⟩ = some (.string x.glyph) := by simp [World.cell?, hX4]
  have y1 : W4.cell? ⟨w.heap.size, 1, none⟩ = some (.string x.letter) := by simp [World.cell?, hX4]
  have y2 : W4.cell? ⟨w.heap.size, 2, none⟩ = some (.int .i64 x.cls) := by simp [World.cell?, hX4]
  exact bodyPost_ret (v := .agg #[.string x.glyph, .string x.letter, .int .i64 x.cls]) (by simp [results, Tryd.results46, go_sem, y0, y1, y2]) rfl ⟨x, rfl, HX2.out, hk4⟩

set_option maxRecDepth 100000 in
set_option maxHeartbeats 4000000 in
/-- A glyph's class. -/
theorem class_any (s : ByteArray) (w : World) (hs : s.size ≤ maxLen) :
    Calls Tryd.prog 38 #[.string s] w fun e w' => e = .returned (.int .i64 (gClass s)) ∧ Below w.heap.size w w' := by
  have HN : NewTab (w.alloc (.cells #[.int .u32 0, .int .i32 0, .int .u32 0, .slice none 0 0, .map none] tT)) w.heap.size := heap_alloc_new w _
  have HO := Lib.hid (of_new w.heap.size s _ hs HN)
  have hB := below_new w (.cells #[.int .u32 0, .int .i32 0, .int .u32 0, .slice none 0 0, .map none] tT)
  have hz : (w.alloc (.cells #[.int .u32 0, .int .i32 0, .int .u32 0, .slice none 0 0, .map none] tT)).heap.size = w.heap.size + 1 := by simp
  clear HN
  go_enter Tryd.func38, Tryd.ntmps38
  go_wp2_with fail
  refine HO.out.mono ?_
  rintro e w3 ⟨x, rfl, hx, hk⟩
  have HX := Lib.hid hx
  have hb3 : Below w.heap.size w w3 := hB.trans ⟨hk.os, hk.tape, hk.output, hk.size, fun k hk1 => hk.block k (by omega) (by omega)⟩
  have hfield : ∀ W : World, (Instr.field tG (.agg #[.string x.glyph, .string x.letter, .int .i64 x.cls]) 2).run Tryd.prog W = .ok (.int .i64 x.cls) W := fun W => by kernel_rfl
  clear hx hk
  go_wp2_with fail
  go_ret
  exact ⟨by rw [HX.out]; rfl, hb3⟩
end Go.Proofs.YteojnejomgomjaaDoor
