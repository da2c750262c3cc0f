/-
  Regions that draw their order, with operations that are guarded: the guard decided ahead. No program here.
-/
import Derived.Test.YtamclieppbnpiabGreatDoorReg
set_option linter.unusedSimpArgs false
set_option linter.unusedVariables false
namespace Go.Proofs.YtamclieppbnpiabGreatDoor
open Go

section
variable {P : Program} {ops : Array Oper} {Q : Exit → Act → World → Prop} {S : World → Prop}

theorem wpHead_step_w {o : Oper} {rest : List Oper} {k : Act → Prop} {a : Act} {v : Value} (hw : Region.wanted o (yielded ops a.tmps) = true)
    (hy : ∀ w, S w → (execOp a.eval o).run P w = .ok (.value v) w) (h : wpHead P ops S rest k (a.put o.dst v)) : wpHead P ops S (o :: rest) k a :=
  ⟨v, .inl ⟨hw, hy⟩, h⟩
theorem wpHead_step_un {o : Oper} {rest : List Oper} {k : Act → Prop} {a : Act} (hw : Region.wanted o (yielded ops a.tmps) = false)
    (h : wpHead P ops S rest k (a.put o.dst undef)) : wpHead P ops S (o :: rest) k a :=
  ⟨undef, .inr ⟨hw, rfl⟩, h⟩
theorem wpTail_step_w {o : Oper} {rest : List Oper} {a : Act} {w : World} (hw : Region.wanted o (yielded ops a.tmps) = true)
    (h : ∀ K : Act → World → Prop, (∀ a w, S w → wpTail P ops Q S rest a w → K a w) → o.wp P a w K Q) : wpTail P ops Q S (o :: rest) a w := by
  unfold wpTail
  rw [if_pos hw]
  exact .inl (h _ fun _ _ h1 h2 => ⟨h1, h2⟩)
theorem wpTailK_step_w {k : Act → World → Prop} {o : Oper} {rest : List Oper} {a : Act} {w : World} (hw : Region.wanted o (yielded ops a.tmps) = true)
    (h : ∀ K : Act → World → Prop, (∀ a w, S w → wpTailK P ops Q S k rest a w → K a w) → o.wp P a w K Q) : wpTailK P ops Q S k (o :: rest) a w := by
  unfold wpTailK
  rw [if_pos hw]
  exact .inl (h _ fun a w hs hr => ⟨hs, hr⟩)
end
end Go.Proofs.YtamclieppbnpiabGreatDoor
