/-
  Rows of edits that a call makes: what an owned row holds, read as edits. No program here.
-/
import Derived.Test.YtkfdjffoljkomaaDoorEdP
import Derived.Lib.MinMax
set_option linter.unusedSimpArgs false
set_option linter.unusedVariables false
namespace Go.Proofs.YtkfdjffoljkomaaDoor
open Go.RowKit

theorem below_drewN {B : Nat} {a w : World} (h : Below B a w) (n : Nat) : Below B a (w.drewN n) := ⟨h.os, h.tape, h.output, h.size, h.block⟩

def edCells (l : List Ed) : List Value := l.flatMap Ed.cells

theorem edCells_length (l : List Ed) : (edCells l).length = l.length * 3 := by
  induction l with
  | nil => rfl
  | cons x l ih => simp [edCells, Ed.cells] at ih ⊢; omega

theorem edCells_append (l m : List Ed) : edCells (l ++ m) = edCells l ++ edCells m := by simp [edCells]

theorem edCells_one (x : Ed) : edCells [x] = x.cells := by simp [edCells]

theorem ownBlock_ge {w : World} {base : Nat} {e : TypeId} {size : Nat} {v : Value} {n : Nat} {xs : List Value} (h : w.ownsRow base e size v n xs) : ∀ k, v.ownBlock = some k → base ≤ k := by
  intro k hk
  rcases h.2 with ⟨rfl, _⟩ | ⟨g, cap, cur, rfl, hg, _⟩
  · simp [Value.ownBlock] at hk
  · simp [Value.ownBlock] at hk
    omega

theorem edCells_get (l : List Ed) : ∀ (k : Nat) (x : Ed), l[k]? = some x → (edCells l)[k * 3]? = some (.int .i64 x.pos) ∧ (edCells l)[k * 3 + 1]? = some (.int .i64 x.n) ∧ (edCells l)[k * 3 + 2]? = some (.string x.s) := by
  induction l with
  | nil => intro k x h; simp at h
  | cons y l ih =>
    intro k x h
    have e : edCells (y :: l) = [.int .i64 y.pos, .int .i64 y.n, .string y.s] ++ edCells l := by simp [edCells, Ed.cells]
    cases k with
    | zero =>
      simp at h
      subst h
      rw [e]
      exact ⟨rfl, rfl, rfl⟩
    | succ k =>
      have h1 := ih k x (by simpa using h)
      rw [e]
      refine ⟨?_, ?_, ?_⟩
      · rw [List.getElem?_append_right (by simp; omega)]
        rw [← h1.1]; congr 1; simp; omega
      · rw [List.getElem?_append_right (by simp; omega)]
        rw [← h1.2.1]; congr 1; simp; omega
      · rw [List.getElem?_append_right (by simp; omega)]
        rw [← h1.2.2]; congr 1; simp; omega

theorem holds_of_own {w : World} {base : Nat} {e : TypeId} {v : Value} {n : Nat} {l : List Ed} (h : w.ownsRow base e 3 v n (edCells l)) :
    ∃ A c, v = .slice A l.length c ∧ n = l.length ∧ Holds w A l ∧ l.length ≤ c := by
  have hn : n = l.length := by have h1 := h.1; rw [edCells_length] at h1; omega
  subst hn
  rcases h.2 with ⟨rfl, h0⟩ | ⟨g, cap, cur, rfl, _, _, hcap, _⟩
  · have : l = [] := List.eq_nil_of_length_eq_zero h0
    subst this
    exact ⟨none, 0, rfl, rfl, Holds.nil _ _, Nat.le_refl _⟩
  · refine ⟨some ⟨g, 0, none⟩, cap, rfl, rfl, fun k x hx => ?_, hcap⟩
    have hc := h.cells (g := g) rfl
    obtain ⟨h1, h2, h3⟩ := edCells_get l k x hx
    have c1 := hc _ _ h1
    have c2 := hc _ _ h2
    have c3 := hc _ _ h3
    have ea : ∀ j, (⟨g, 0, none⟩ : Addr).add j = ⟨g, 0 + j, none⟩ := fun j => by
      unfold Addr.add
      split
      · rename_i h; subst h; rfl
      · rfl
    rw [ea] at c1 c2 c3
    exact ⟨g, 0, rfl, c1, by rw [Nat.add_assoc]; exact c2, by rw [Nat.add_assoc]; exact c3⟩

/-- What 'few' makes of an edit. -/
def few1 (x : Ed) : Ed := ⟨max (-10000) (min x.pos 10000), max (-10000) (min x.n 10000), x.s.extract 0 (min x.s.size 300)⟩
def fewTo (l : List Ed) (k : Nat) : List Ed := (l.take k).map few1
def few (l : List Ed) : List Ed := fewTo l 20

theorem fewTo_succ (l : List Ed) (k : Nat) (h : k < l.length) : fewTo l (k + 1) = fewTo l k ++ [few1 l[k]] := by
  unfold fewTo
  rw [List.take_succ_eq_append_getElem h, List.map_append]; rfl
theorem fewTo_all (l : List Ed) (h : l.length ≤ 20) : fewTo l l.length = few l := by
  unfold few fewTo
  rw [List.take_of_length_le (Nat.le_refl _), List.take_of_length_le h]

theorem ownBlock_lt {w : World} {base : Nat} {e : TypeId} {size : Nat} {v : Value} {n : Nat} {xs : List Value} (h : w.ownsRow base e size v n xs) : ∀ k, v.ownBlock = some k → k < w.heap.size := by
  intro k hk
  rcases h.2 with ⟨rfl, _⟩ | ⟨g, cap, cur, rfl, hg, hh, _⟩
  · simp [Value.ownBlock] at hk
  · simp [Value.ownBlock] at hk
    subst hk
    rcases Nat.lt_or_ge g w.heap.size with h1 | h1
    · exact h1
    · rw [Array.getElem?_eq_none h1] at hh; cases hh

/-- What takes an edit back, the places moved by d. -/
def back1 (s : ByteArray) (d : Int) (x : Ed) : Ed := ⟨x.pos + d, x.s.size, s.extract x.pos.toNat (x.pos + x.n).toNat⟩
def backL (s : ByteArray) : Int → List Ed → List Ed
  | _, [] => []
  | d, x :: l => back1 s d x :: backL s (d + x.s.size - x.n) l

theorem backL_step {s : ByteArray} {d : Int} {x : Ed} {l done g : List Ed} (h : done ++ backL s d (x :: l) = g) : (done ++ [back1 s d x]) ++ backL s (d + x.s.size - x.n) l = g := by
  rw [← h]; simp [backL]

def backOut (s : ByteArray) (l : List Ed) (w : World) (e : Ending) : Prop :=
  if right s.size 0 l = true then ∃ A c, e = .returned (.tuple #[.slice A (backL s 0 l).length c, .int .i64 0]) ∧ Holds w A (backL s 0 l) ∧ (backL s 0 l).length ≤ c
  else e = .returned (.tuple #[.slice none 0 0, .int .i64 130])
theorem backOut_no {s : ByteArray} {l : List Ed} {w : World} {e : Ending} (h : right s.size 0 l = false) : backOut s l w e ↔ e = .returned (.tuple #[.slice none 0 0, .int .i64 130]) := by simp [backOut, h]
theorem backOut_yes {s : ByteArray} {l : List Ed} {w : World} {e : Ending} (h : right s.size 0 l = true) : backOut s l w e ↔ ∃ A c, e = .returned (.tuple #[.slice A (backL s 0 l).length c, .int .i64 0]) ∧ Holds w A (backL s 0 l) ∧ (backL s 0 l).length ≤ c := by simp [backOut, h]

/-- A new block of one edit. -/
theorem holds_one (w : World) (x : Ed) (e : TypeId) : Holds (w.alloc (.cells #[.int .i64 x.pos, .int .i64 x.n, .string x.s] e)) (some ⟨w.heap.size, 0, none⟩) [x] := fun k y hk => by
  cases k with
  | zero =>
    simp at hk
    subst hk
    exact ⟨w.heap.size, 0, rfl, by simp, by simp, by simp⟩
  | succ k => simp at hk

end Go.Proofs.YtkfdjffoljkomaaDoor
