/-
  What a loop's body keeps for the iterator: all blocks of cells but those that X names. No program here.
-/
import Derived.RangeFuncNested
import Derived.RangeFuncBound
import Derived.RangeFuncCalls
import Derived.RangeFuncLeaves
import Derived.RangeFuncBox
import Derived.Shelf.Abstract
import Derived.Deep.Draws
set_option linter.unusedSimpArgs false
set_option linter.unusedVariables false
namespace Go.Proofs.YtebejlnegalokaaGreatDoor
open Go Go.RowKit

theorem grown_drew {a w : World} {row : Option Nat} (h : a.grownBy w row) : a.grownBy w.drew row := ⟨h.os, h.tape, h.output, h.size, h.block⟩

structure KeepsBut (X : Nat → TypeId → Prop) (W W' : World) : Prop where
  size : W.heap.size ≤ W'.heap.size
  same : ∀ b cs t fr, W.heap[b]? = some (.cells cs t fr) → ¬ X b t → W'.heap[b]? = some (.cells cs t fr)

section
variable {X : Nat → TypeId → Prop} {W W' W'' : World}
theorem KeepsBut.refl (X : Nat → TypeId → Prop) (W : World) : KeepsBut X W W := ⟨Nat.le_refl _, fun _ _ _ _ h _ => h⟩
theorem KeepsBut.trans (h : KeepsBut X W W') (k : KeepsBut X W' W'') : KeepsBut X W W'' := ⟨Nat.le_trans h.size k.size, fun b cs t fr h1 h2 => k.same b cs t fr (h.same b cs t fr h1 h2) h2⟩
theorem KeepsBut.drew (h : KeepsBut X W W') : KeepsBut X W W'.drew := ⟨h.size, h.same⟩
theorem KeepsBut.drewN (h : KeepsBut X W W') (n : Nat) : KeepsBut X W (W'.drewN n) := ⟨h.size, h.same⟩
theorem KeepsBut.of_grown {row : Option Nat} (hg : W.grownBy W' row) (hr : ∀ k, row = some k → ∀ cs t fr, W.heap[k]? = some (.cells cs t fr) → X k t) : KeepsBut X W W' :=
  ⟨hg.size, fun b cs t fr h1 h2 => by
    have hlt : b < W.heap.size := (Array.getElem?_eq_some_iff.1 h1).1
    by_cases e : some b = row
    · exact absurd (hr b e.symm cs t fr h1) h2
    · exact (hg.block b hlt e).trans h1⟩
theorem KeepsBut.alloc (h : KeepsBut X W W') (o : Obj) : KeepsBut X W (W'.alloc o) := h.trans (.of_grown (World.grownBy_alloc W' o none) (fun k e => by cases e))
theorem KeepsBut.putObj {l : Nat} {o : Obj} (o' : Obj) (hl : W.heap[l]? = some o) (ho : o.isCells = false) : KeepsBut X W (W.putObj l o') :=
  .of_grown (grownBy_putObj' W l o') (fun k e cs t fr hk => by cases e; rw [hl] at hk; cases hk; cases ho)
theorem KeepsBut.setCell (h : KeepsBut X W W') (b : Nat) (v : Value) (hX : ∀ cs t fr, W'.heap[b]? = some (.cells cs t fr) → X b t) : KeepsBut X W (W'.setCell ⟨b, 0, none⟩ v) :=
  h.trans (.of_grown (grownBy_setCell' W' b v) (fun k e cs t fr hk => by cases e; exact hX cs t fr hk))
theorem KeepsBut.grown (h : KeepsBut X W W') {row : Option Nat} (hg : W'.grownBy W'' row) (hr : ∀ k, row = some k → ∀ cs t fr, W'.heap[k]? = some (.cells cs t fr) → X k t) : KeepsBut X W W'' := h.trans (.of_grown hg hr)
theorem KeepsBut.boxed (h : KeepsBut X W W') {B : Nat} {t : TypeId} {v : Value} (hb : Boxed W B t v) (hX : ¬ X B t) : Boxed W' B t v := h.same _ _ _ _ hb hX
end

/-- What a round keeps: whatever lay below n₀; above, all cells but X's. -/
def KeepsTwo (n₀ : Nat) (X : Nat → TypeId → Prop) (W W' : World) : Prop := Below n₀ W W' ∧ KeepsBut X W W'
theorem keepsTwo_t {n₀ : Nat} {X : Nat → TypeId → Prop} {A B C : World} (h : KeepsTwo n₀ X A B) (k : KeepsTwo n₀ X B C) : KeepsTwo n₀ X A C := ⟨h.1.trans k.1, h.2.trans k.2⟩
theorem keepsTwo_b {n₀ : Nat} {X : Nat → TypeId → Prop} {w : World} (hn : n₀ ≤ w.heap.size) (W : World) (l : Nat) (o o' : Obj) (hl : w.heap.size ≤ l) (h : W.heap[l]? = some o) (hc : o.isCells = false) (hw : o.isWalk = false) : KeepsTwo n₀ X W (W.putObj l o') :=
  ⟨belowK_b hn W l o o' hl h hc hw, KeepsBut.putObj o' h hc⟩
theorem keepsTwo_refl (n₀ : Nat) (X : Nat → TypeId → Prop) (W : World) : KeepsTwo n₀ X W W := ⟨Below.refl _ _, KeepsBut.refl _ _⟩

end Go.Proofs.YtebejlnegalokaaGreatDoor
