/-
  A lexer in memory, its row named; what changes of it, what stays of another one.
-/
import Derived.Test.YtflpihedhccdfaaGreatDoorProg
import Derived.Test.YtflpihedhccdfaaGreatDoorReg
import Derived.WalkKit
import Derived.WalkSpells
import Derived.WalkLawsBesides
import Derived.Lib.Hide
import Derived.Lib.MinMax
import Derived.Deep.QuietTactic
import Derived.BigQuiet
import Derived.OwnWalk
import Derived.Deep.AppendLies
import Derived.KernelRfl
import Derived.Laws.OwnMore
import Derived.Deep.OwnRows
import Derived.Test.YtflpihedhccdfaaGreatDoorRxN
set_option linter.unusedSimpArgs false
set_option linter.unusedVariables false
namespace Go.Proofs.YtflpihedhccdfaaGreatDoor
open Go Go.RowKit

/-- The lexer at X keeps the text t in the row v, whose lines are ls, and has lexed q lines. -/
structure LexV (w : World) (base X : Nat) (v : Value) (ls : List Ln) (t : ByteArray) (q : Int) : Prop where
  at_ : w.heap[X]? = some (.cells #[v, .int .i64 q] 68 (0, 0))
  own : w.ownsRow base 75 2 v ls.length (lnCells ls)
  txt : textsOf ls = piecesB t
  right : RightL w ls
theorem LexV.is {w : World} {base X : Nat} {v : Value} {ls : List Ln} {t : ByteArray} {q : Int} (h : LexV w base X v ls t q) : IsLex w X t q := ⟨base, v, ls, h.at_, h.own, h.txt, h.right⟩
theorem LexV.below {w w' : World} {base X : Nat} {v : Value} {ls : List Ln} {t : ByteArray} {q : Int} (h : LexV w base X v ls t q) (hb : Below w.heap.size w w') : LexV w' base X v ls t q :=
  ⟨(hb.block _ (Array.getElem?_eq_some_iff.1 h.at_).1).trans h.at_, own_below h.own hb, h.txt, h.right.below hb⟩
/-- With a base. -/
def IsLexB (w : World) (base X : Nat) (t : ByteArray) (q : Int) : Prop := ∃ v ls, LexV w base X v ls t q
theorem IsLexAt.lex {w : World} {base X : Nat} {t : ByteArray} {q : Int} (h : IsLexAt w base X t q) : IsLexB w base X t q := by obtain ⟨v, ls, h1, h2, h3, h4⟩ := h; exact ⟨v, ls, h1, h2, h3, h4⟩
theorem IsLexB.is {w : World} {base X : Nat} {t : ByteArray} {q : Int} (h : IsLexB w base X t q) : IsLex w X t q := by obtain ⟨v, ls, h⟩ := h; exact h.is
theorem IsLexB.below {w w' : World} {base X : Nat} {t : ByteArray} {q : Int} (h : IsLexB w base X t q) (hb : Below w.heap.size w w') : IsLexB w' base X t q := by obtain ⟨v, ls, h⟩ := h; exact ⟨v, ls, h.below hb⟩
theorem IsLexB.mono {w : World} {b b' X : Nat} {t : ByteArray} {q : Int} (h : IsLexB w b X t q) (hb : b' ≤ b) : IsLexB w b' X t q := by obtain ⟨v, ls, h⟩ := h; exact ⟨v, ls, h.at_, own_mono h.own hb, h.txt, h.right⟩

/-- Nothing has changed but the lexer's cells and its row. -/
structure ButLex (w w' : World) (X : Nat) (v : Value) : Prop where
  os : w'.os = w.os
  tape : w'.tape = w.tape
  output : w'.output = w.output
  size : w.heap.size ≤ w'.heap.size
  block : ∀ k, k < w.heap.size → k ≠ X → v.ownBlock ≠ some k → w'.heap[k]? = w.heap[k]?
theorem ButLex.of_below {w w' : World} {X : Nat} {v : Value} (hb : Below w.heap.size w w') : ButLex w w' X v := ⟨hb.os, hb.tape, hb.output, hb.size, fun k hk _ _ => hb.block k hk⟩
theorem ButLex.of_grown {w w' : World} {X : Nat} {v : Value} (hb : w.grownBy w' (some X)) : ButLex w w' X v := ⟨hb.os, hb.tape, hb.output, hb.size, fun k hk hx _ => hb.block k hk (fun e => hx (by simpa using e))⟩
theorem ButLex.of_row {w w' : World} {X : Nat} {v : Value} (hb : w.grownBy w' v.ownBlock) : ButLex w w' X v := ⟨hb.os, hb.tape, hb.output, hb.size, fun k hk _ hv => hb.block k hk (fun e => hv e.symm)⟩
theorem ButLex.trans {w w' w2 : World} {X : Nat} {v : Value} (h : ButLex w w' X v) (k : ButLex w' w2 X v) : ButLex w w2 X v :=
  ⟨k.os.trans h.os, k.tape.trans h.tape, k.output.trans h.output, Nat.le_trans h.size k.size, fun j hj h1 h2 => (k.block j (Nat.lt_of_lt_of_le hj h.size) h1 h2).trans (h.block j hj h1 h2)⟩
theorem ButLex.below {w0 w w' : World} {B X : Nat} {v : Value} (h : ButLex w w' X v) (hB : Below B w0 w) (hs : B ≤ w.heap.size) (hX : B ≤ X) (hv : ∀ k, v.ownBlock = some k → B ≤ k) : Below B w0 w' :=
  ⟨h.os.trans hB.os, h.tape.trans hB.tape, h.output.trans hB.output, Nat.le_trans hB.size h.size, fun k hk => (h.block k (by omega) (by omega) (fun e => by have := hv k e; omega)).trans (hB.block k hk)⟩
/-- Another lexer, in rows of its own, stays. -/
theorem LexV.other {w w' : World} {b X Y : Nat} {v u : Value} {ls : List Ln} {t : ByteArray} {q : Int} (h : LexV w b Y u ls t q) (hb : ButLex w w' X v) (hXY : Y ≠ X) (hv : ∀ k, v.ownBlock = some k → u.ownBlock ≠ some k)
    (hXt : ∃ cs, w.heap[X]? = some (.cells cs 68 (0, 0))) (hvt : ∀ k, v.ownBlock = some k → ∃ cs, w.heap[k]? = some (.cells cs 75 (0, 0))) : LexV w' b Y u ls t q := by
  obtain ⟨cX, hX⟩ := hXt
  have keep : ∀ k cs T fr, w.heap[k]? = some (.cells cs T fr) → k ≠ X → v.ownBlock ≠ some k → w'.heap[k]? = some (.cells cs T fr) := fun k cs T fr h1 h2 h3 => (hb.block k (Array.getElem?_eq_some_iff.1 h1).1 h2 h3).trans h1
  have row : ∀ {base size n : Nat} {T : TypeId} {z : Value} {xs : List Value}, w.ownsRow base T size z n xs → (∀ k, z.ownBlock = some k → k ≠ X ∧ v.ownBlock ≠ some k) → w'.ownsRow base T size z n xs := by
    intro base size n T z xs h1 h2
    refine ⟨h1.1, ?_⟩
    rcases h1.2 with h0 | ⟨g, cap, cur, rfl, hbg, hg, rest⟩
    · exact .inl h0
    · obtain ⟨k1, k2⟩ := h2 g rfl
      exact .inr ⟨g, cap, cur, rfl, hbg, keep g _ _ _ hg k1 k2, rest⟩
  have apart : ∀ {base size n : Nat} {T : TypeId} {z : Value} {xs : List Value}, T ≠ 68 → w.ownsRow base T size z n xs → ∀ k, z.ownBlock = some k → k ≠ X := by
    intro base size n T z xs hT h1 k hk e
    rcases h1.2 with ⟨rfl, _⟩ | ⟨g, cap, cur, rfl, hbg, hg, rest⟩
    · cases hk
    · cases hk
      subst e
      rw [hX] at hg
      cases hg
      exact hT rfl
  refine ⟨keep _ _ _ _ h.at_ hXY (fun e => ?_), row h.own (fun k hk => ⟨apart (by decide) h.own k hk, fun e => hv k e hk⟩), h.txt, fun x hx => ?_⟩
  · obtain ⟨cs, hc⟩ := hvt Y e
    have := h.at_
    rw [hc] at this
    cases this
  · obtain ⟨h1, base, h2⟩ := h.right x hx
    refine ⟨h1, base, row h2 (fun k hk => ⟨apart (by decide) h2 k hk, fun e => ?_⟩)⟩
    obtain ⟨cs, hc⟩ := hvt k e
    rcases h2.2 with ⟨hz, _⟩ | ⟨g, cap, cur, hz, hbg, hg, rest⟩
    · rw [hz] at hk; cases hk
    · rw [hz] at hk; cases hk
      rw [hc] at hg
      cases hg

/-- The sliced cells of a list of lines. -/
theorem HoldsL.slice {w : World} {g off : Nat} {l : List Ln} (h : HoldsL w (some ⟨g, off, none⟩) l) (k : Nat) : HoldsL w (some ⟨g, off + k * 2, none⟩) (l.drop k) := fun j x hx => by
  rw [List.getElem?_drop] at hx
  obtain ⟨b, o, e, h1, h2⟩ := h (k + j) x hx
  cases e
  exact ⟨_, _, rfl, by rw [← h1]; congr 2; omega, by rw [← h2]; congr 2; omega⟩
theorem HoldsL.take {w : World} {A : Option Addr} {l : List Ln} (h : HoldsL w A l) (k : Nat) : HoldsL w A (l.take k) := fun j x hx => h j x (by
  rw [List.getElem?_take] at hx
  split at hx
  · exact hx
  · cases hx)

theorem LexV.grownOther {w w' : World} {b Y : Nat} {u : Value} {ls : List Ln} {t : ByteArray} {q : Int} (h : LexV w b Y u ls t q) {r : Nat} {cs : Array Value} {T : TypeId} {fr : Nat × Nat} (hg : w.grownBy w' (some r)) (hr : w.heap[r]? = some (.cells cs T fr))
    (h1 : T ≠ 68) (h2 : T ≠ 75) (h3 : T ≠ 55) : LexV w' b Y u ls t q :=
  ⟨(hg.block Y (Array.getElem?_eq_some_iff.1 h.at_).1 (fun e => by
      have e' : Y = r := by simpa using e
      have h0 := h.at_
      rw [e', hr] at h0
      cases h0
      exact h1 rfl)).trans h.at_, h.own.kept hg (Or.inr (own_apart_cells h.own hr h2)), h.txt, h.right.other hg hr h3⟩
theorem ButLex.set {w w' : World} {X : Nat} {v : Value} (h : ButLex w w' X v) {a : Addr} (u : Value) (ha : w.heap.size ≤ a.block) : ButLex w (w'.setCell a u) X v :=
  ⟨h.os, h.tape, h.output, by simpa using h.size, fun k hk h1 h2 => (heap_setCell_other _ _ _ _ (by omega)).trans (h.block k hk h1 h2)⟩
theorem lnCells_set : ∀ (l : List Ln) (k : Nat) (x : Ln), k < l.length → ((lnCells l).set (k * 2) (.string x.text)).set (k * 2 + 1) (.slice x.row x.n x.c) = lnCells (l.set k x)
  | [], k, x, h => by simp at h
  | y :: l, 0, x, _ => by simp [lnCells, Ln.cells]
  | y :: l, k + 1, x, h => by
    have ih := lnCells_set l k x (by simpa using h)
    have e : ∀ (z : Ln) (m : List Ln), lnCells (z :: m) = .string z.text :: .slice z.row z.n z.c :: lnCells m := fun z m => by simp [lnCells, Ln.cells]
    rw [List.set_cons_succ, e, e, ← ih, show (k + 1) * 2 = k * 2 + 2 by omega, show k * 2 + 2 + 1 = k * 2 + 1 + 2 by omega]
    rfl
theorem set_parts {l : List Ln} {k : Nat} (x : Ln) (h : k < l.length) : l.set k x = l.take k ++ [x] ++ l.drop (k + 1) := by
  rw [List.set_eq_take_append_cons_drop, if_pos h]
  simp
theorem LexV.set3 {w : World} {b Y : Nat} {u : Value} {ls : List Ln} {t : ByteArray} {q : Int} (h : LexV w b Y u ls t q) {r : Nat} {cs : Array Value} {T : TypeId} {fr : Nat × Nat} (hr : w.heap[r]? = some (.cells cs T fr))
    (h1 : T ≠ 68) (h2 : T ≠ 75) (h3 : T ≠ 55) (b1 b2 b3 : Value) : LexV (((w.setCell ⟨r, 0, none⟩ b1).setCell ⟨r, 1, none⟩ b2).setCell ⟨r, 2, none⟩ b3) b Y u ls t q :=
  h.grownOther (r := r) ⟨rfl, rfl, rfl, by simp, fun k hk hne => by
    have e : k ≠ r := fun e => hne (by rw [e])
    rw [heap_setCell_other _ _ _ _ e, heap_setCell_other _ _ _ _ e, heap_setCell_other _ _ _ _ e]⟩ hr h1 h2 h3
/-- Blocks of other types stay. -/
def OthersL (w w' : World) : Prop := ∀ (k : Nat) (cs : Array Value) (T : TypeId) (fr : Nat × Nat), w.heap[k]? = some (.cells cs T fr) → T ≠ 68 → T ≠ 75 → w'.heap[k]? = some (.cells cs T fr)
theorem OthersL.trans {w w' w2 : World} (h : OthersL w w') (k : OthersL w' w2) : OthersL w w2 := fun j cs T fr hj h1 h2 => k j cs T fr (h j cs T fr hj h1 h2) h1 h2
theorem OthersL.own {w w' : World} (h : OthersL w w') {base size n : Nat} {T : TypeId} {z : Value} {xs : List Value} (k : w.ownsRow base T size z n xs) (h1 : T ≠ 68) (h2 : T ≠ 75) : w'.ownsRow base T size z n xs := by
  refine ⟨k.1, ?_⟩
  rcases k.2 with h0 | ⟨g, cap, cur, hv, hbg, hg, rest⟩
  · exact .inl h0
  · exact .inr ⟨g, cap, cur, hv, hbg, h g _ _ _ hg h1 h2, rest⟩
theorem LexV.others {w w' : World} {b X : Nat} {v : Value} {ls : List Ln} {t : ByteArray} {q : Int} (h : LexV w b X v ls t q) (hb : ButLex w w' X v) : OthersL w w' := fun k cs T fr hk h1 h2 => by
  refine (hb.block k (Array.getElem?_eq_some_iff.1 hk).1 (fun e => ?_) (fun e => own_apart_cells h.own hk h2 e)).trans hk
  subst e
  have h0 := h.at_
  rw [hk] at h0
  cases h0
  exact h1 rfl
end Go.Proofs.YtflpihedhccdfaaGreatDoor
