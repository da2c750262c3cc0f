/-
  Partners, by the document's program text.
-/
import Derived.Test.YtlokkdbgihbnhabDoorProg
import Derived.Test.YtlokkdbgihbnhabDoorReg
import Derived.WalkKit
import Derived.WalkSpells
import Derived.WalkLawsBesides
import Derived.Lib.Hide
import Derived.Lib.MinMax
import Derived.Deep.QuietTactic
import Derived.BigQuiet
import Derived.OwnWalk
import Derived.Deep.AppendLies
import Derived.KernelRfl
import Derived.ArgAppend
import Derived.Maps.AppendAt
import Derived.WalkSmall
import Derived.OneCell
import Derived.Laws.Rows
import Derived.Test.YtlokkdbgihbnhabDoorRegG
import Derived.Test.YtlokkdbgihbnhabDoorGrpH
import Derived.Test.YtlokkdbgihbnhabDoorGrpI
import Derived.Test.YtlokkdbgihbnhabDoorGrpO
set_option linter.unusedSimpArgs false
set_option linter.unusedVariables false
namespace Go.Proofs.YtlokkdbgihbnhabDoor
open Go.RowKit

theorem intCells_get {l : List Int} {k : Nat} {x : Int} (h : l[k]? = some x) : (intCells l)[k]? = some (.int .i64 x) := by simp [intCells, h]
theorem intCells_set (l : List Int) (k : Nat) (x : Int) : (intCells l).set k (.int .i64 x) = intCells (l.set k x) := by simp [intCells, List.map_set]

/-- A row that the call owns, of numbers: whether it is one of them, at which place. -/
theorem own_int {w : World} {base : Nat} {e : TypeId} {v : Value} {n : Nat} {l : List Int} (h : w.ownsRow base e 1 v n (intCells l)) : n = l.length := by
  have h1 := h.1
  rw [intCells_length] at h1
  omega
theorem own_form {w : World} {base : Nat} {e : TypeId} {v : Value} {n : Nat} {xs : List Value} (h : w.ownsRow base e 1 v n xs) (hn : 0 < n) : ∃ g cap, v = .slice (some ⟨g, 0, none⟩) n cap ∧ base ≤ g ∧ g < w.heap.size ∧ n ≤ cap := by
  rcases h.2 with ⟨_, h0⟩ | ⟨g, cap, cur, hv, hb, hg, hc, _⟩
  · omega
  · exact ⟨g, cap, hv, hb, (Array.getElem?_eq_some_iff.1 hg).1, hc⟩

def stackOf (s : Brs) : List Int := (s.stack.map (fun x => (x.1 : Int))).reverse
theorem stackOf_cons {s : Brs} {q : Nat} {b : Bool} {r : List (Nat × Bool)} (h : s.stack = (q, b) :: r) : stackOf s = (r.map (fun x => (x.1 : Int))).reverse ++ [(q : Int)] := by
  unfold stackOf
  rw [h]
  simp
theorem stackOf_len (s : Brs) : (stackOf s).length = s.stack.length := by simp [stackOf]

/-- What stands at the head of round k. -/
structure RMatchAt (l : List Tok) (w0 wr : World) (o v : Value) (d : Int) (k : Nat) (s : Brs) : Prop where
  le : k ≤ l.length
  run : Brs.none0.run (brs (l.take k)) = some s
  out : wr.ownsRow w0.heap.size 3 1 o k (intCells s.pairs)
  stk : wr.ownsRow w0.heap.size 3 1 v s.stack.length (intCells (stackOf s))
  far : ∀ b, o.ownBlock = some b → v.ownBlock ≠ some b
  deep : d = s.most
  low : Below w0.heap.size w0 wr

theorem pairs_two {P : List Int} {k q : Nat} (hk : k = P.length) (hq : q < k) : ((P ++ [-1]).set q (k : Int)).set k (q : Int) = P.set q (k : Int) ++ [(q : Int)] := by
  subst hk
  rw [List.set_append_left _ _ hq, List.set_append_right _ _ (by simp)]
  simp

theorem far_left {o o' v : Value} {n : Nat} (h : ∀ b, o.ownBlock = some b → v.ownBlock ≠ some b) (hat : o'.ownBlock = o.ownBlock ∨ o'.ownBlock = some n) (hv : ∀ b, v.ownBlock = some b → b < n) : ∀ b, o'.ownBlock = some b → v.ownBlock ≠ some b := fun b hb he => by
  rcases hat with e | e
  · exact h b (e ▸ hb) he
  · rw [e] at hb
    cases hb
    have := hv _ he
    omega
theorem far_right {o v v' : Value} {n : Nat} (h : ∀ b, o.ownBlock = some b → v.ownBlock ≠ some b) (hat : v'.ownBlock = v.ownBlock ∨ v'.ownBlock = some n) (ho : ∀ b, o.ownBlock = some b → b < n) : ∀ b, o.ownBlock = some b → v'.ownBlock ≠ some b := fun b hb he => by
  rcases hat with e | e
  · exact h b hb (e ▸ he)
  · rw [e] at he
    cases he
    have := ho _ hb
    omega
theorem far_row {o v : Value} (h : ∀ b, o.ownBlock = some b → v.ownBlock ≠ some b) : v.ownBlock = none ∨ v.ownBlock ≠ o.ownBlock := by
  cases hv : v.ownBlock with
  | none => exact Or.inl rfl
  | some b => exact Or.inr fun e => h b e.symm hv
theorem far_row' {o v : Value} (h : ∀ b, o.ownBlock = some b → v.ownBlock ≠ some b) : o.ownBlock = none ∨ o.ownBlock ≠ v.ownBlock := by
  cases ho : o.ownBlock with
  | none => exact Or.inl rfl
  | some b => exact Or.inr fun e => h b ho e.symm

end Go.Proofs.YtlokkdbgihbnhabDoor
