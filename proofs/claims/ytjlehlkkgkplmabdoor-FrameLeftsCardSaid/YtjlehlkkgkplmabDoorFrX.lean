/-
  Lists of texts in memory; are two the same, by the document's program text.
-/
import Derived.Test.YtjlehlkkgkplmabDoorProg
import Derived.Test.YtjlehlkkgkplmabDoorReg
import Derived.WalkKit
import Derived.WalkSpells
import Derived.WalkLawsBesides
import Derived.Lib.Hide
import Derived.Lib.MinMax
import Derived.Deep.QuietTactic
import Derived.BigQuiet
import Derived.OwnWalk
import Derived.Deep.AppendLies
import Derived.KernelRfl
import Derived.Test.YtjlehlkkgkplmabDoorFrT
set_option linter.unusedSimpArgs false
set_option linter.unusedVariables false
namespace Go.Proofs.YtjlehlkkgkplmabDoor
open Go Go.RowKit

/-- The slice value '.slice A n c' holds, in w, the texts l. -/
def HoldsS (w : World) (A : Option Addr) (l : List ByteArray) : Prop :=
  ∀ (k : Nat) (x : ByteArray), l[k]? = some x → ∃ b off, A = some ⟨b, off, none⟩ ∧ w.cell? ⟨b, off + k, none⟩ = some (.string x)
theorem HoldsS.below {w w' : World} {A : Option Addr} {l : List ByteArray} (h : HoldsS w A l) (hb : Below w.heap.size w w') : HoldsS w' A l := fun k x hx => by
  obtain ⟨b, off, e, h1⟩ := h k x hx
  exact ⟨b, off, e, (hb.cell (p := ⟨b, _, none⟩) (cell_lt h1)).trans h1⟩
theorem HoldsS.nil (w : World) (A : Option Addr) : HoldsS w A [] := fun k x hx => by simp at hx
theorem list_eq {α : Type} {a b : List α} (hl : a.length = b.length) (h : ∀ k : Nat, k < a.length → a[k]? = b[k]?) : a = b := by
  refine List.ext_getElem? fun k => ?_
  by_cases hk : k < a.length
  · exact h k hk
  · rw [List.getElem?_eq_none (by omega), List.getElem?_eq_none (by omega)]

end Go.Proofs.YtjlehlkkgkplmabDoor
