/-
  A head's lines, split by the library; a line cut by it.
-/
import Derived.Test.YtjlehlkkgkplmaaDoorProg
import Derived.Test.YtjlehlkkgkplmaaDoorReg
import Derived.WalkKit
import Derived.WalkSpells
import Derived.WalkLawsBesides
import Derived.Lib.Hide
import Derived.Lib.MinMax
import Derived.Deep.QuietTactic
import Derived.BigQuiet
import Derived.OwnWalk
import Derived.Deep.AppendLies
import Derived.KernelRfl
import Derived.Test.YtjlehlkkgkplmaaDoorFrC
import Derived.Test.YtjlehlkkgkplmaaDoorFrS
import Derived.Test.YtjlehlkkgkplmaaDoorFrN
set_option linter.unusedSimpArgs false
set_option linter.unusedVariables false
namespace Go.Proofs.YtjlehlkkgkplmaaDoor
open Go Go.RowKit

def crlfB : ByteArray := ⟨#[13, 10]⟩
/-- A head's lines, as texts. -/
def linesB (s : ByteArray) : List ByteArray := Lib.splitB crlfB 0 (Lib.countB s crlfB) s
theorem linesB_data (s : ByteArray) : (linesB s).map (fun l => l.data.toList) = headLines s.data.toList := by
  unfold linesB
  rw [Lib.splitB_data]
  exact split_lines s.data.toList
theorem linesB_len (s : ByteArray) : (linesB s).length = Lib.countB s crlfB + 1 := Lib.splitB_all crlfB (by decide) 0 _ s rfl
theorem Split_lines (s : ByteArray) (a : Addr) (w : World) (hs : s.size ≤ 1000000) (h : LaidF a w) :
    Calls Tryd.prog 45 #[.string s, .string ⟨#[13, 10]⟩] w fun e w' =>
      e = .returned (.slice (some ⟨w.heap.size, 0, none⟩) (linesB s).length (linesB s).length) ∧ w' = w.alloc (.cells ((linesB s).map Value.string).toArray 9) :=
  (Split_lib s crlfB a w hs (by decide) h).mono fun e w' ⟨h1, h2⟩ => ⟨by rw [h1, linesB_len], h2⟩
/-- What the program says of a line, by its two tests. -/
theorem pLine_tests (s : ByteArray) : lineOf s.data.toList = if (Lib.cut s.data.toList [58, 32]).2.2 = true ∧ isNameS ⟨(Lib.cut s.data.toList [58, 32]).1.toArray⟩ = true ∧ isValS ⟨(Lib.cut s.data.toList [58, 32]).2.1.toArray⟩ = true
    then some ((Lib.cut s.data.toList [58, 32]).1, (Lib.cut s.data.toList [58, 32]).2.1) else none := by
  rw [← pLine_is]
  unfold pLine isNameS isValS
  generalize Lib.cut s.data.toList [58, 32] = c
  obtain ⟨n, v, b⟩ := c
  simp only
  have hn : (decide (0 < (⟨n.toArray⟩ : ByteArray).size) && (⟨n.toArray⟩ : ByteArray).data.toList.all isNameB) = true ↔ n ≠ [] ∧ n.all isNameB = true := by
    have e1 : (⟨n.toArray⟩ : ByteArray).size = n.length := rfl
    have e2 : (⟨n.toArray⟩ : ByteArray).data.toList = n := rfl
    rw [e1, e2, Bool.and_eq_true, decide_eq_true_eq, List.length_pos_iff]
  have hv : (⟨v.toArray⟩ : ByteArray).data.toList.all isValB = v.all isValB := rfl
  rw [hv]
  by_cases h : b = true ∧ (n ≠ [] ∧ n.all isNameB = true) ∧ v.all isValB = true
  · rw [if_pos h, if_pos ⟨h.1, hn.2 h.2.1, h.2.2⟩]
  · rw [if_neg h, if_neg (fun g => h ⟨g.1, hn.1 g.2.1, g.2.2⟩)]
end Go.Proofs.YtjlehlkkgkplmaaDoor
