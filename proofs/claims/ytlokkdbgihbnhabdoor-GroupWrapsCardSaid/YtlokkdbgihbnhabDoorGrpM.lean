/-
  The document's glyphs, by the program text: the table, the first glyph of a text, a glyph's class.
-/
import Derived.Test.YtlokkdbgihbnhabDoorProg
import Derived.Test.YtlokkdbgihbnhabDoorReg
import Derived.WalkKit
import Derived.WalkSpells
import Derived.WalkLawsBesides
import Derived.Lib.Hide
import Derived.Lib.MinMax
import Derived.Deep.QuietTactic
import Derived.BigQuiet
import Derived.OwnWalk
import Derived.Deep.AppendLies
import Derived.KernelRfl
import Derived.Test.YtlokkdbgihbnhabDoorGrpT
import Derived.Test.YtlokkdbgihbnhabDoorGrpL
set_option linter.unusedSimpArgs false
set_option linter.unusedVariables false
namespace Go.Proofs.YtlokkdbgihbnhabDoor
open Go.RowKit

def Gly.cells (x : Gly) : List Value := [.string x.glyph, .string x.letter, .int .i64 x.cls]
def glyCells (l : List Gly) : List Value := l.flatMap Gly.cells
theorem glyCells_get (l : List Gly) : ∀ (k : Nat) (x : Gly), l[k]? = some x → (glyCells l)[k * 3]? = some (.string x.glyph) ∧ (glyCells l)[k * 3 + 1]? = some (.string x.letter) ∧ (glyCells l)[k * 3 + 2]? = some (.int .i64 x.cls) := by
  induction l with
  | nil => intro k x h; simp at h
  | cons y l ih =>
    intro k x h
    have e : glyCells (y :: l) = [.string y.glyph, .string y.letter, .int .i64 y.cls] ++ glyCells l := by simp [glyCells, Gly.cells]
    cases k with
    | zero =>
      simp at h
      subst h
      rw [e]
      exact ⟨rfl, rfl, rfl⟩
    | succ k =>
      have h1 := ih k x (by simpa using h)
      rw [e]
      refine ⟨?_, ?_, ?_⟩
      · rw [List.getElem?_append_right (by simp; omega)]
        rw [← h1.1]; congr 1; simp; omega
      · rw [List.getElem?_append_right (by simp; omega)]
        rw [← h1.2.1]; congr 1; simp; omega
      · rw [List.getElem?_append_right (by simp; omega)]
        rw [← h1.2.2]; congr 1; simp; omega

/-- The table lies at block b. -/
def HoldsG (w : World) (b : Nat) : Prop := ∀ (k : Nat) (x : Gly), glyphs[k]? = some x → w.cell? ⟨b, k * 3, none⟩ = some (.string x.glyph) ∧ w.cell? ⟨b, k * 3 + 1, none⟩ = some (.string x.letter) ∧ w.cell? ⟨b, k * 3 + 2, none⟩ = some (.int .i64 x.cls)
theorem HoldsG.below {w w' : World} {b : Nat} (h : HoldsG w b) (hb : Below w.heap.size w w') : HoldsG w' b := fun k x hx => by
  obtain ⟨h1, h2, h3⟩ := h k x hx
  have hl : b < w.heap.size := cell_lt h1
  exact ⟨(hb.cell (p := ⟨b, _, none⟩) hl).trans h1, (hb.cell (p := ⟨b, _, none⟩) hl).trans h2, (hb.cell (p := ⟨b, _, none⟩) hl).trans h3⟩

set_option maxRecDepth 100000 in
set_option maxHeartbeats 4000000 in
theorem table_any (w : World) :
    Calls Tryd.prog 40 #[] w fun r w' => r = .returned (.slice (some ⟨w.heap.size, 0, none⟩) 38 38) ∧ HoldsG w' w.heap.size ∧ Below w.heap.size w w' := by
  have K := Lib.hid (show ∀ k x, glyphs[k]? = some x → _ from fun k x h => glyCells_get glyphs k x h)
  go_enter Tryd.func40, Tryd.ntmps40
  go_wp2_with fail
  go_ret
  refine ⟨rfl, fun k x hx => ?_, (Below.refl _ _).alloc (Nat.le_refl _) _⟩
  obtain ⟨k1, k2, k3⟩ := K.out k x hx
  refine ⟨?_, ?_, ?_⟩
  · rw [World.cell?_alloc_at _ _ _ _ rfl, ← k1]
    exact (congrArg (fun a : Array Value => a[k * 3]?) (show _ = (glyCells glyphs).toArray by kernel_rfl)).trans (by simp)
  · rw [World.cell?_alloc_at _ _ _ _ rfl, ← k2]
    exact (congrArg (fun a : Array Value => a[k * 3 + 1]?) (show _ = (glyCells glyphs).toArray by kernel_rfl)).trans (by simp)
  · rw [World.cell?_alloc_at _ _ _ _ rfl, ← k3]
    exact (congrArg (fun a : Array Value => a[k * 3 + 2]?) (show _ = (glyCells glyphs).toArray by kernel_rfl)).trans (by simp)

set_option maxRecDepth 100000 in
set_option maxHeartbeats 4000000 in
theorem begins_any (s t : ByteArray) (w : World) (hs : s.size ≤ maxLen) (ht : t.size ≤ maxLen) :
    Calls Tryd.prog 41 #[.string s, .string t] w fun r w' => r = .returned (.bool (begins s t)) ∧ w' = w := by
  unfold maxLen at hs ht
  unfold begins
  by_cases h : t.size ≤ s.size
  · have h1 : (t.size : Int) ≤ (s.size : Int) := by omega
    have h0 : (0 : Int) ≤ (t.size : Int) := by omega
    by_cases e : s.extract 0 t.size = t
    · have q := bytes_beq_yes e
      have E := Lib.hid e
      clear e
      go_enter Tryd.func41, Tryd.ntmps41
      go_wp2_with fail
      all_goals go_ret
      all_goals exact ⟨by simp [E.out, h], rfl⟩
    · have q := bytes_beq_no e
      have E := Lib.hid e
      clear e
      go_enter Tryd.func41, Tryd.ntmps41
      go_wp2_with fail
      all_goals go_ret
      all_goals exact ⟨by simp [E.out, h], rfl⟩
  · have h1 : ¬ (t.size : Int) ≤ (s.size : Int) := by omega
    go_enter Tryd.func41, Tryd.ntmps41
    go_wp2_with fail
    all_goals go_ret
    all_goals exact ⟨by simp [h], rfl⟩
end Go.Proofs.YtlokkdbgihbnhabDoor
