/-
  A lexer's lines in memory.
-/
import Derived.Test.YtflpihedhccdfaaGreatDoorProg
import Derived.Test.YtflpihedhccdfaaGreatDoorReg
import Derived.WalkKit
import Derived.WalkSpells
import Derived.WalkLawsBesides
import Derived.Lib.Hide
import Derived.Lib.MinMax
import Derived.Deep.QuietTactic
import Derived.BigQuiet
import Derived.OwnWalk
import Derived.Deep.AppendLies
import Derived.KernelRfl
import Derived.Laws.OwnMore
import Derived.Test.YtflpihedhccdfaaGreatDoorLxM2
import Derived.Test.YtflpihedhccdfaaGreatDoorRxQ
set_option linter.unusedSimpArgs false
set_option linter.unusedVariables false
namespace Go.Proofs.YtflpihedhccdfaaGreatDoor
open Go.RowKit Go.Maps

abbrev tL : TypeId := 75
theorem infoLine : (Tryz.prog.info? 75).map (fun i => (i.zero, i.size, i.bytes)) = some (some (.agg #[.string ByteArray.empty, .slice none 0 0]), 2, 40) := by kernel_rfl

/-- A line: its text, its tokens' slice. -/
structure Ln where
  text : ByteArray
  row : Option Addr
  n : Nat
  c : Nat
def Ln.cells (x : Ln) : List Value := [.string x.text, .slice x.row x.n x.c]
def Ln.val (x : Ln) : Value := .agg #[.string x.text, .slice x.row x.n x.c]
def lnCells (l : List Ln) : List Value := l.flatMap Ln.cells
theorem lnCells_length (l : List Ln) : (lnCells l).length = l.length * 2 := by
  induction l with
  | nil => rfl
  | cons x l ih => simp [lnCells, Ln.cells] at ih ⊢; omega
theorem lnCells_append (l m : List Ln) : lnCells (l ++ m) = lnCells l ++ lnCells m := by simp [lnCells]
theorem lnCells_one (x : Ln) : lnCells [x] = x.cells := by simp [lnCells]
theorem lnCells_get (l : List Ln) : ∀ (k : Nat) (x : Ln), l[k]? = some x → (lnCells l)[k * 2]? = some (.string x.text) ∧ (lnCells l)[k * 2 + 1]? = some (.slice x.row x.n x.c) := by
  induction l with
  | nil => intro k x h; simp at h
  | cons y l ih =>
    intro k x h
    have e : lnCells (y :: l) = [.string y.text, .slice y.row y.n y.c] ++ lnCells l := by simp [lnCells, Ln.cells]
    cases k with
    | zero =>
      simp at h
      subst h
      rw [e]
      exact ⟨rfl, rfl⟩
    | succ k =>
      obtain ⟨h1, h2⟩ := ih k x (by simpa using h)
      rw [e, show (k + 1) * 2 = k * 2 + 2 by omega, show k * 2 + 2 + 1 = k * 2 + 1 + 2 by omega]
      simpa using ⟨h1, h2⟩

/-- The slice value '.slice A n c' holds, in w, the lines l. -/
def HoldsL (w : World) (A : Option Addr) (l : List Ln) : Prop :=
  ∀ (k : Nat) (x : Ln), l[k]? = some x → ∃ b off, A = some ⟨b, off, none⟩ ∧ w.cell? ⟨b, off + k * 2, none⟩ = some (.string x.text) ∧ w.cell? ⟨b, off + k * 2 + 1, none⟩ = some (.slice x.row x.n x.c)
theorem HoldsL.below {w w' : World} {A : Option Addr} {l : List Ln} (h : HoldsL w A l) (hb : Below w.heap.size w w') : HoldsL w' A l := fun k x hx => by
  obtain ⟨b, off, e, h1, h2⟩ := h k x hx
  have hl : b < w.heap.size := cell_lt h1
  exact ⟨b, off, e, (hb.cell (p := ⟨b, _, none⟩) hl).trans h1, (hb.cell (p := ⟨b, _, none⟩) hl).trans h2⟩
theorem HoldsL.nil (w : World) (A : Option Addr) : HoldsL w A [] := fun k x hx => by simp at hx
theorem holdsL_of_own {w : World} {base : Nat} {e : TypeId} {v : Value} {n : Nat} {l : List Ln} (h : w.ownsRow base e 2 v n (lnCells l)) :
    ∃ A c, v = .slice A l.length c ∧ n = l.length ∧ HoldsL w A l ∧ l.length ≤ c := by
  have hn : n = l.length := by have h1 := h.1; rw [lnCells_length] at h1; omega
  subst hn
  rcases h.2 with ⟨rfl, h0⟩ | ⟨g, cap, cur, rfl, _, _, hcap, _⟩
  · have : l = [] := List.eq_nil_of_length_eq_zero h0
    subst this
    exact ⟨none, 0, rfl, rfl, HoldsL.nil _ _, Nat.le_refl _⟩
  · refine ⟨some ⟨g, 0, none⟩, cap, rfl, rfl, fun k x hx => ?_, hcap⟩
    have hc := h.cells (g := g) rfl
    obtain ⟨h1, h2⟩ := lnCells_get l k x hx
    have c1 := hc _ _ h1
    have c2 := hc _ _ h2
    have ea : ∀ j, (⟨g, 0, none⟩ : Addr).add j = ⟨g, 0 + j, none⟩ := fun j => by
      unfold Addr.add
      split
      · rename_i h; subst h; rfl
      · rfl
    rw [ea] at c1 c2
    exact ⟨g, 0, rfl, c1, by rw [Nat.add_assoc]; exact c2⟩

def startL (l : List Ln) (k : Nat) : Nat := ((l.take k).map (fun x => x.text.size + 1)).sum
theorem startL_succ {l : List Ln} {k : Nat} {x : Ln} (h : l[k]? = some x) : startL l (k + 1) = startL l k + (x.text.size + 1) := by
  obtain ⟨h1, rfl⟩ := List.getElem?_eq_some_iff.1 h
  unfold startL
  rw [List.take_add_one, List.getElem?_eq_getElem h1, List.map_append, List.sum_append]
  rfl

end Go.Proofs.YtflpihedhccdfaaGreatDoor
