/-
  Slices of tokens in memory; rows that a call makes. No program here.
-/
import Derived.Below
import Derived.Laws.OwnMore
import Derived.Deep.Draws
import Derived.Deep.AppendLies
import Derived.Test.YteojnejomgomjaaDoorLxQ
set_option linter.unusedSimpArgs false
set_option linter.unusedVariables false
namespace Go.Proofs.YteojnejomgomjaaDoor
open Go.RowKit

def Tok.cells (x : Tok) : List Value := [.int .i64 x.kind, .string x.text, .string x.glyph]
def Tok.val (x : Tok) : Value := .agg #[.int .i64 x.kind, .string x.text, .string x.glyph]

/-- The slice value '.slice A n c' holds, in w, the tokens l. -/
def HoldsT (w : World) (A : Option Addr) (l : List Tok) : Prop :=
  ∀ (k : Nat) (x : Tok), l[k]? = some x → ∃ b off, A = some ⟨b, off, none⟩ ∧ w.cell? ⟨b, off + k * 3, none⟩ = some (.int .i64 x.kind) ∧
    w.cell? ⟨b, off + k * 3 + 1, none⟩ = some (.string x.text) ∧ w.cell? ⟨b, off + k * 3 + 2, none⟩ = some (.string x.glyph)
/-- .. the numbers l. -/
def HoldsI (w : World) (A : Option Addr) (l : List Int) : Prop :=
  ∀ (k : Nat) (x : Int), l[k]? = some x → ∃ b off, A = some ⟨b, off, none⟩ ∧ w.cell? ⟨b, off + k, none⟩ = some (.int .i64 x)

theorem cell_lt {w : World} {p : Addr} {v : Value} (h : w.cell? p = some v) : p.block < w.heap.size := by
  rcases Nat.lt_or_ge p.block w.heap.size with h1 | h1
  · exact h1
  · simp [World.cell?, Array.getElem?_eq_none h1] at h

theorem HoldsT.below {w w' : World} {A : Option Addr} {l : List Tok} (h : HoldsT w A l) (hb : Below w.heap.size w w') : HoldsT w' A l := fun k x hx => by
  obtain ⟨b, off, e, h1, h2, h3⟩ := h k x hx
  have hl : b < w.heap.size := cell_lt h1
  exact ⟨b, off, e, (hb.cell (p := ⟨b, _, none⟩) hl).trans h1, (hb.cell (p := ⟨b, _, none⟩) hl).trans h2, (hb.cell (p := ⟨b, _, none⟩) hl).trans h3⟩
theorem HoldsI.below {w w' : World} {A : Option Addr} {l : List Int} (h : HoldsI w A l) (hb : Below w.heap.size w w') : HoldsI w' A l := fun k x hx => by
  obtain ⟨b, off, e, h1⟩ := h k x hx
  have hl : b < w.heap.size := cell_lt h1
  exact ⟨b, off, e, (hb.cell (p := ⟨b, _, none⟩) hl).trans h1⟩
theorem HoldsT.drewN {w : World} {A : Option Addr} {l : List Tok} (h : HoldsT w A l) (n : Nat) : HoldsT (w.drewN n) A l := h
theorem HoldsI.drewN {w : World} {A : Option Addr} {l : List Int} (h : HoldsI w A l) (n : Nat) : HoldsI (w.drewN n) A l := h
theorem HoldsT.nil (w : World) (A : Option Addr) : HoldsT w A [] := fun k x hx => by simp at hx
theorem HoldsI.nil (w : World) (A : Option Addr) : HoldsI w A [] := fun k x hx => by simp at hx

theorem below_drewN {B : Nat} {a w : World} (h : Below B a w) (n : Nat) : Below B a (w.drewN n) := ⟨h.os, h.tape, h.output, h.size, h.block⟩

def tokCells (l : List Tok) : List Value := l.flatMap Tok.cells
def intCells (l : List Int) : List Value := l.map (Value.int .i64)
theorem tokCells_length (l : List Tok) : (tokCells l).length = l.length * 3 := by
  induction l with
  | nil => rfl
  | cons x l ih => simp [tokCells, Tok.cells] at ih ⊢; omega
theorem tokCells_append (l m : List Tok) : tokCells (l ++ m) = tokCells l ++ tokCells m := by simp [tokCells]
theorem tokCells_one (x : Tok) : tokCells [x] = x.cells := by simp [tokCells]
theorem intCells_length (l : List Int) : (intCells l).length = l.length := by simp [intCells]
theorem intCells_append (l m : List Int) : intCells (l ++ m) = intCells l ++ intCells m := by simp [intCells]
theorem intCells_one (x : Int) : intCells [x] = [.int .i64 x] := rfl

theorem ownBlock_ge {w : World} {base : Nat} {e : TypeId} {size : Nat} {v : Value} {n : Nat} {xs : List Value} (h : w.ownsRow base e size v n xs) : ∀ k, v.ownBlock = some k → base ≤ k := by
  intro k hk
  rcases h.2 with ⟨rfl, _⟩ | ⟨g, cap, cur, rfl, hg, _⟩
  · simp [Value.ownBlock] at hk
  · simp [Value.ownBlock] at hk
    omega
theorem ownBlock_lt {w : World} {base : Nat} {e : TypeId} {size : Nat} {v : Value} {n : Nat} {xs : List Value} (h : w.ownsRow base e size v n xs) : ∀ k, v.ownBlock = some k → k < w.heap.size := by
  intro k hk
  rcases h.2 with ⟨rfl, _⟩ | ⟨g, cap, cur, rfl, hg, hh, _⟩
  · simp [Value.ownBlock] at hk
  · simp [Value.ownBlock] at hk
    subst hk
    rcases Nat.lt_or_ge g w.heap.size with h1 | h1
    · exact h1
    · rw [Array.getElem?_eq_none h1] at hh; cases hh

theorem tokCells_get (l : List Tok) : ∀ (k : Nat) (x : Tok), l[k]? = some x → (tokCells l)[k * 3]? = some (.int .i64 x.kind) ∧ (tokCells l)[k * 3 + 1]? = some (.string x.text) ∧ (tokCells l)[k * 3 + 2]? = some (.string x.glyph) := by
  induction l with
  | nil => intro k x h; simp at h
  | cons y l ih =>
    intro k x h
    have e : tokCells (y :: l) = [.int .i64 y.kind, .string y.text, .string y.glyph] ++ tokCells l := by simp [tokCells, Tok.cells]
    cases k with
    | zero =>
      simp at h
      subst h
      rw [e]
      exact ⟨rfl, rfl, rfl⟩
    | succ k =>
      have h1 := ih k x (by simpa using h)
      rw [e]
      refine ⟨?_, ?_, ?_⟩
      · rw [List.getElem?_append_right (by simp; omega)]
        rw [← h1.1]; congr 1; simp; omega
      · rw [List.getElem?_append_right (by simp; omega)]
        rw [← h1.2.1]; congr 1; simp; omega
      · rw [List.getElem?_append_right (by simp; omega)]
        rw [← h1.2.2]; congr 1; simp; omega

theorem holdsT_of_own {w : World} {base : Nat} {e : TypeId} {v : Value} {n : Nat} {l : List Tok} (h : w.ownsRow base e 3 v n (tokCells l)) :
    ∃ A c, v = .slice A l.length c ∧ n = l.length ∧ HoldsT w A l ∧ l.length ≤ c := by
  have hn : n = l.length := by have h1 := h.1; rw [tokCells_length] at h1; omega
  subst hn
  rcases h.2 with ⟨rfl, h0⟩ | ⟨g, cap, cur, rfl, _, _, hcap, _⟩
  · have : l = [] := List.eq_nil_of_length_eq_zero h0
    subst this
    exact ⟨none, 0, rfl, rfl, HoldsT.nil _ _, Nat.le_refl _⟩
  · refine ⟨some ⟨g, 0, none⟩, cap, rfl, rfl, fun k x hx => ?_, hcap⟩
    have hc := h.cells (g := g) rfl
    obtain ⟨h1, h2, h3⟩ := tokCells_get l k x hx
    have c1 := hc _ _ h1
    have c2 := hc _ _ h2
    have c3 := hc _ _ h3
    have ea : ∀ j, (⟨g, 0, none⟩ : Addr).add j = ⟨g, 0 + j, none⟩ := fun j => by
      unfold Addr.add
      split
      · rename_i h; subst h; rfl
      · rfl
    rw [ea] at c1 c2 c3
    exact ⟨g, 0, rfl, c1, by rw [Nat.add_assoc]; exact c2, by rw [Nat.add_assoc]; exact c3⟩
theorem holdsI_of_own {w : World} {base : Nat} {e : TypeId} {v : Value} {n : Nat} {l : List Int} (h : w.ownsRow base e 1 v n (intCells l)) :
    ∃ A c, v = .slice A l.length c ∧ n = l.length ∧ HoldsI w A l ∧ l.length ≤ c := by
  have hn : n = l.length := by have h1 := h.1; rw [intCells_length] at h1; omega
  subst hn
  rcases h.2 with ⟨rfl, h0⟩ | ⟨g, cap, cur, rfl, _, _, hcap, _⟩
  · have : l = [] := List.eq_nil_of_length_eq_zero h0
    subst this
    exact ⟨none, 0, rfl, rfl, HoldsI.nil _ _, Nat.le_refl _⟩
  · refine ⟨some ⟨g, 0, none⟩, cap, rfl, rfl, fun k x hx => ?_, hcap⟩
    have hc := h.cells (g := g) rfl
    have h1 : (intCells l)[k]? = some (.int .i64 x) := by simp [intCells, hx]
    have c1 := hc _ _ h1
    have ea : ∀ j, (⟨g, 0, none⟩ : Addr).add j = ⟨g, 0 + j, none⟩ := fun j => by
      unfold Addr.add
      split
      · rename_i h; subst h; rfl
      · rfl
    rw [ea] at c1
    exact ⟨g, 0, rfl, c1⟩

/-- What 'Few' makes of tokens. -/
def cut300 (s : ByteArray) : ByteArray := s.extract 0 (min s.size 300)
def few1 (x : Tok) : Tok := ⟨x.kind, cut300 x.text, cut300 x.glyph⟩
def fewTo (l : List Tok) (k : Nat) : List Tok := (l.take k).map few1
def few (l : List Tok) : List Tok := fewTo l 60
theorem fewTo_succ (l : List Tok) (k : Nat) (h : k < l.length) : fewTo l (k + 1) = fewTo l k ++ [few1 l[k]] := by
  unfold fewTo
  rw [List.take_succ_eq_append_getElem h, List.map_append]; rfl
theorem fewTo_all (l : List Tok) (h : l.length ≤ 60) : fewTo l l.length = few l := by
  unfold few fewTo
  rw [List.take_of_length_le (Nat.le_refl _), List.take_of_length_le h]
theorem few_len (l : List Tok) : (few l).length ≤ 60 := by simp [few, fewTo]; omega

/-- Tokens whose texts are not too long, and not too many. -/
def mildT (l : List Tok) : Prop := l.length ≤ 1000 ∧ ∀ (k : Nat) (x : Tok), l[k]? = some x → x.text.size ≤ 1000000 ∧ x.glyph.size ≤ 1000000
theorem mild_few (l : List Tok) : mildT (few l) := by
  refine ⟨by have := few_len l; omega, fun k x h => ?_⟩
  simp only [few, fewTo, List.getElem?_map, Option.map_eq_some_iff] at h
  obtain ⟨y, _, rfl⟩ := h
  simp only [few1, cut300, ByteArray.size_extract]
  omega
end Go.Proofs.YteojnejomgomjaaDoor
