/-
  The first token of a text: by the program.
-/
import Derived.Test.YteojnejomgomjaaDoorProg
import Derived.Test.YteojnejomgomjaaDoorReg
import Derived.WalkKit
import Derived.WalkSpells
import Derived.WalkLawsBesides
import Derived.Lib.Hide
import Derived.Lib.MinMax
import Derived.Deep.QuietTactic
import Derived.BigQuiet
import Derived.OwnWalk
import Derived.Deep.AppendLies
import Derived.KernelRfl
import Derived.Test.YteojnejomgomjaaDoorLxFt
set_option linter.unusedSimpArgs false
set_option linter.unusedVariables false
namespace Go.Proofs.YteojnejomgomjaaDoor
open Go.RowKit Go.Maps

set_option maxRecDepth 100000 in
set_option maxHeartbeats 8000000 in
/-- The first token. -/
theorem First_some (s : ByteArray) (w : World) (h1 : 0 < s.size) (hs : s.size ≤ 1000000) (hT : Tabs w) :
    Calls Tryd.prog 13 #[.string s] w fun e w' => e = .returned (.tuple #[(dFirst s).val, .bool true]) ∧ Below w.heap.size w w' := by
  have hB0 := below_new w (.cells zTok tK)
  have hX0 := heap_alloc_new w (.cells zTok tK)
  have hz0 : (w.alloc (.cells zTok tK)).heap.size = w.heap.size + 1 := by simp
  have hem := empty_not (u := s) h1
  have HO := Lib.hid (open_any s (w.alloc (.cells zTok tK)) hs)
  have HF := Lib.hid (fun X F W => lfirst_any X F s W h1 hs)
  have hmf : ∀ (fn : Fn) (first cap : Array Value) (w : World), (Instr.makeFunc fn first cap).run Tryd.prog w = .ok (.func fn first cap) w := fun _ _ _ _ => rfl
  have HT0 := Lib.hid (hT.below hB0)
  clear hT
  unfold Tok.val at HF ⊢
  generalize dFirst s = d at *
  go_enter Tryd.func13, Tryd.ntmps13
  go_wp2_with fail
  refine HO.out.mono ?_
  rintro e w1 ⟨X, rfl, hL1, hb1⟩
  have hT1 := HT0.out.below hb1
  have hB1 : Below w.heap.size w w1 := hB0.trans (hb1.mono (by omega))
  have hz1 := hb1.size
  have hX1 := (hb1.block w.heap.size (by omega)).trans hX0
  have HL1 := Lib.hid hL1
  have HT1 := Lib.hid hT1
  clear HO HT0 hL1 hT1 hb1
  go_wp2_with fail
  have hFW : ∀ (o : Obj) (i : Nat) (f : FuncId), o = .cells #[.func (.func 24) #[.pointer (some ⟨X, 0, none⟩)] #[], .func (.func 25) #[.pointer (some ⟨X, 0, none⟩)] #[], .func (.func 26) #[.pointer (some ⟨X, 0, none⟩)] #[], .func (.func 27) #[.pointer (some ⟨X, 0, none⟩)] #[], .func (.func 28) #[.pointer (some ⟨X, 0, none⟩)] #[], .func (.func 29) #[.pointer (some ⟨X, 0, none⟩)] #[], .func (.func 30) #[.pointer (some ⟨X, 0, none⟩)] #[]] 41 (0, 0) →
      stepFns[i]? = some f → (w1.alloc o).cell? ⟨w1.heap.size, i, none⟩ = some (.func (.func f) #[.pointer (some ⟨X, 0, none⟩)] #[]) := fun o i f ho hi => by
    subst ho
    match i, hi with
    | 0, hi => simp [stepFns] at hi; subst hi; simp
    | 1, hi => simp [stepFns] at hi; subst hi; simp
    | 2, hi => simp [stepFns] at hi; subst hi; simp
    | 3, hi => simp [stepFns] at hi; subst hi; simp
    | 4, hi => simp [stepFns] at hi; subst hi; simp
    | 5, hi => simp [stepFns] at hi; subst hi; simp
    | 6, hi => simp [stepFns] at hi; subst hi; simp
    | i + 7, hi => simp [stepFns] at hi
  have hbo := fun o => below_new w1 o
  refine (HF.out X w1.heap.size _ (HL1.out.below (hbo _)) (HT1.out.below (hbo _)) (fun i f hi => hFW _ i f rfl hi)).mono ?_
  rintro e w2 ⟨rfl, hb2⟩
  have hB2 : Below w.heap.size w w2 := hB1.trans (((hbo _).mono hB1.size).trans (hb2.mono (by have := hB1.size; simp; omega)))
  have hX2 := (hb2.block w.heap.size (by simp; omega)).trans ((Lib.alloc_old w1 _ w.heap.size (by omega)).trans hX1)
  obtain ⟨x0, x1, x2, z0⟩ := tok_cells hX2
  clear HF HL1 HT1 hFW hbo hb2 hX1 hX0
  go_wp2_with fail
  have hR9 := set3 (b1 := .int .i64 d.kind) (b2 := .string d.text) (b3 := .string d.glyph) hX2
  have hB9 := ((hB2.setCell (p := ⟨w.heap.size, 0, none⟩) (Nat.le_refl _) (.int .i64 d.kind)).setCell (p := ⟨w.heap.size, 1, none⟩) (Nat.le_refl _) (.string d.text)).setCell (p := ⟨w.heap.size, 2, none⟩) (Nat.le_refl _) (.string d.glyph)
  generalize ((w2.setCell ⟨w.heap.size, 0, none⟩ (.int .i64 d.kind)).setCell ⟨w.heap.size, 1, none⟩ (.string d.text)).setCell ⟨w.heap.size, 2, none⟩ (.string d.glyph) = W9 at *
  obtain ⟨y0, y1, y2, _⟩ := tok_cells hR9
  exact bodyPost_ret (v := .tuple #[.agg #[.int .i64 d.kind, .string d.text, .string d.glyph], .bool true]) (by simp [results, Tryd.results13, go_sem, y0, y1, y2]) rfl ⟨rfl, hB9⟩

set_option maxRecDepth 100000 in
set_option maxHeartbeats 8000000 in
theorem First_none (w : World) :
    Calls Tryd.prog 13 #[.string ByteArray.empty] w fun e w' => e = .returned (.tuple #[noTok.val, .bool false]) ∧ Below w.heap.size w w' := by
  have hB0 := below_new w (.cells zTok tK)
  go_enter Tryd.func13, Tryd.ntmps13
  go_wp2_with fail
  exact bodyPost_ret (v := .tuple #[.agg #[.int .i64 0, .string ⟨#[]⟩, .string ⟨#[]⟩], .bool false]) (by simp [results, Tryd.results13, go_sem]) rfl ⟨rfl, hB0⟩
end Go.Proofs.YteojnejomgomjaaDoor
