/-
  What memory holds: numbers, nodes, lists of nodes. No program here.
-/
import Derived.Test.YtbcgdkhkljeomaaDoorProg
import Derived.Test.YtbcgdkhkljeomaaDoorReg
import Derived.WalkKit
import Derived.WalkSpells
import Derived.WalkLawsBesides
import Derived.Lib.Hide
import Derived.Lib.MinMax
import Derived.Deep.QuietTactic
import Derived.BigQuiet
import Derived.OwnWalk
import Derived.Deep.AppendLies
import Derived.KernelRfl
import Derived.Laws.OwnMore
import Derived.Test.YtbcgdkhkljeomaaDoorNdP
import Derived.Test.YtbcgdkhkljeomaaDoorBytes
set_option linter.unusedSimpArgs false
set_option linter.unusedVariables false
namespace Go.Proofs.YtbcgdkhkljeomaaDoor
open Go.RowKit

theorem cell_lt {w : World} {p : Addr} {v : Value} (h : w.cell? p = some v) : p.block < w.heap.size := by
  rcases Nat.lt_or_ge p.block w.heap.size with h1 | h1
  · exact h1
  · simp [World.cell?, Array.getElem?_eq_none h1] at h
theorem bytes_app (a b : ByteArray) : (a ++ b).data.toList = a.data.toList ++ b.data.toList := by
  rw [ByteArray.data_append]; exact Array.toList_append
theorem bytes_ext (s : ByteArray) (a b : Nat) : (s.extract a b).data.toList = (s.data.toList.drop a).take (b - a) := by
  rw [ByteArray.data_extract]
  simp [List.extract_eq_take_drop]
theorem bytes_eq {a b : ByteArray} (h : a.data.toList = b.data.toList) : a = b := by
  obtain ⟨⟨x⟩⟩ := a; obtain ⟨⟨y⟩⟩ := b; simp at h; rw [h]
theorem bytes_len (s : ByteArray) : s.data.toList.length = s.size := rfl
theorem empty_is {u : ByteArray} (h : u.size = 0) : u.toList.isEmpty = true := by
  rw [ByteArray.toList_eq]
  have : u.data.toList.length = 0 := by rw [bytes_len]; exact h
  rw [List.length_eq_zero_iff.1 this]
  rfl
theorem empty_not {u : ByteArray} (h : 0 < u.size) : u.toList.isEmpty = false := by
  rw [ByteArray.toList_eq]
  have : u.data.toList.length = u.size := bytes_len u
  cases hl : u.data.toList with
  | nil => rw [hl] at this; simp at this; omega
  | cons a l => rfl
theorem below_drewN {B : Nat} {a w : World} (h : Below B a w) (n : Nat) : Below B a (w.drewN n) := ⟨h.os, h.tape, h.output, h.size, h.block⟩
theorem grown_of_below {w w' : World} (h : Below w.heap.size w w') : w.grownBy w' none := ⟨h.os, h.tape, h.output, h.size, fun k hk _ => h.block k hk⟩
theorem own_below {w w' : World} {base : Nat} {e : TypeId} {size : Nat} {v : Value} {n : Nat} {xs : List Value} (h : w.ownsRow base e size v n xs) (hb : Below w.heap.size w w') : w'.ownsRow base e size v n xs :=
  h.kept (grown_of_below hb) (by cases hv : v.ownBlock <;> simp)
theorem ownBlock_ge {w : World} {base : Nat} {e : TypeId} {size : Nat} {v : Value} {n : Nat} {xs : List Value} (h : w.ownsRow base e size v n xs) : ∀ k, v.ownBlock = some k → base ≤ k := fun k hk => (h.lt k hk).1
theorem ownBlock_lt {w : World} {base : Nat} {e : TypeId} {size : Nat} {v : Value} {n : Nat} {xs : List Value} (h : w.ownsRow base e size v n xs) : ∀ k, v.ownBlock = some k → k < w.heap.size := fun k hk => (h.lt k hk).2

/-- The slice value '.slice A n c' holds, in w, the numbers l. -/
def HoldsI (w : World) (A : Option Addr) (l : List Int) : Prop :=
  ∀ (k : Nat) (x : Int), l[k]? = some x → ∃ b off, A = some ⟨b, off, none⟩ ∧ w.cell? ⟨b, off + k, none⟩ = some (.int .i64 x)
theorem HoldsI.below {w w' : World} {A : Option Addr} {l : List Int} (h : HoldsI w A l) (hb : Below w.heap.size w w') : HoldsI w' A l := fun k x hx => by
  obtain ⟨b, off, e, h1⟩ := h k x hx
  have hl : b < w.heap.size := cell_lt h1
  exact ⟨b, off, e, (hb.cell (p := ⟨b, _, none⟩) hl).trans h1⟩
theorem HoldsI.drewN {w : World} {A : Option Addr} {l : List Int} (h : HoldsI w A l) (n : Nat) : HoldsI (w.drewN n) A l := h
theorem HoldsI.nil (w : World) (A : Option Addr) : HoldsI w A [] := fun k x hx => by simp at hx
def intCells (l : List Int) : List Value := l.map (Value.int .i64)
theorem intCells_length (l : List Int) : (intCells l).length = l.length := by simp [intCells]
theorem intCells_append (l m : List Int) : intCells (l ++ m) = intCells l ++ intCells m := by simp [intCells]
theorem intCells_one (x : Int) : intCells [x] = [.int .i64 x] := rfl
theorem addr_add0 (g j : Nat) : (⟨g, 0, none⟩ : Addr).add j = ⟨g, 0 + j, none⟩ := by
  unfold Addr.add
  split
  · rename_i h; subst h; rfl
  · rfl
theorem holdsI_of_own {w : World} {base : Nat} {e : TypeId} {v : Value} {n : Nat} {l : List Int} (h : w.ownsRow base e 1 v n (intCells l)) :
    ∃ A c, v = .slice A l.length c ∧ n = l.length ∧ HoldsI w A l ∧ l.length ≤ c := by
  have hn : n = l.length := by have h1 := h.1; rw [intCells_length] at h1; omega
  subst hn
  rcases h.2 with ⟨rfl, h0⟩ | ⟨g, cap, cur, rfl, _, _, hcap, _⟩
  · have : l = [] := List.eq_nil_of_length_eq_zero h0
    subst this
    exact ⟨none, 0, rfl, rfl, HoldsI.nil _ _, Nat.le_refl _⟩
  · refine ⟨some ⟨g, 0, none⟩, cap, rfl, rfl, fun k x hx => ?_, hcap⟩
    have hc := h.cells (g := g) rfl
    have h1 : (intCells l)[k]? = some (.int .i64 x) := by simp [intCells, hx]
    have c1 := hc _ _ h1
    rw [addr_add0] at c1
    exact ⟨g, 0, rfl, c1⟩

/-- One node lies at place ⟨b, o⟩. -/
def NodeLies (w : World) (b o : Nat) (x : Nd) : Prop :=
  w.cell? ⟨b, o, none⟩ = some (.int .i64 x.kind) ∧ w.cell? ⟨b, o + 1, none⟩ = some (.string x.text) ∧
    ∃ B c, w.cell? ⟨b, o + 2, none⟩ = some (.slice B x.kids.length c) ∧ HoldsI w B x.kids ∧ x.kids.length ≤ c
/-- The slice value '.slice A n c' holds, in w, the nodes l. -/
def HoldsN (w : World) (A : Option Addr) (l : List Nd) : Prop :=
  ∀ (k : Nat) (x : Nd), l[k]? = some x → ∃ b off, A = some ⟨b, off, none⟩ ∧ NodeLies w b (off + k * 3) x
theorem NodeLies.below {w w' : World} {b o : Nat} {x : Nd} (h : NodeLies w b o x) (hb : Below w.heap.size w w') : NodeLies w' b o x := by
  obtain ⟨h1, h2, B, c, h3, h4, h5⟩ := h
  have hl : b < w.heap.size := cell_lt h1
  exact ⟨(hb.cell (p := ⟨b, _, none⟩) hl).trans h1, (hb.cell (p := ⟨b, _, none⟩) hl).trans h2, B, c, (hb.cell (p := ⟨b, _, none⟩) hl).trans h3, h4.below hb, h5⟩
theorem HoldsN.below {w w' : World} {A : Option Addr} {l : List Nd} (h : HoldsN w A l) (hb : Below w.heap.size w w') : HoldsN w' A l := fun k x hx => by
  obtain ⟨b, off, e, h1⟩ := h k x hx
  exact ⟨b, off, e, h1.below hb⟩
theorem HoldsN.drewN {w : World} {A : Option Addr} {l : List Nd} (h : HoldsN w A l) (n : Nat) : HoldsN (w.drewN n) A l := h
theorem HoldsN.nil (w : World) (A : Option Addr) : HoldsN w A [] := fun k x hx => by simp at hx
/-- All kinds are ints. -/
def IntN (l : List Nd) : Prop := ∀ x ∈ l, (Lit.int .i64 x.kind).wf = true ∧ x.kids.length ≤ 1000 ∧ x.text.size ≤ 1000000 ∧ ∀ k ∈ x.kids, (Lit.int .i64 k).wf = true
end Go.Proofs.YtbcgdkhkljeomaaDoor
