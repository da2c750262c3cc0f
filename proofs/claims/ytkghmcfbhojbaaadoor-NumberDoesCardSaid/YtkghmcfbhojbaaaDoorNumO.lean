/-
  What is told of an error, by its code.
-/
import Derived.Test.YtkghmcfbhojbaaaDoorProg
import Derived.Test.YtkghmcfbhojbaaaDoorReg
import Derived.WalkKit
import Derived.WalkSpells
import Derived.WalkLawsBesides
import Derived.Lib.Hide
import Derived.Lib.MinMax
import Derived.Deep.QuietTactic
import Derived.BigQuiet
import Derived.OwnWalk
import Derived.Deep.AppendLies
import Derived.KernelRfl
import Derived.Test.YtkghmcfbhojbaaaDoorNumM
import Derived.Test.YtkghmcfbhojbaaaDoorNumN
set_option linter.unusedSimpArgs false
set_option linter.unusedVariables false
namespace Go.Proofs.YtkghmcfbhojbaaaDoor
open Go.RowKit

set_option maxRecDepth 100000 in
set_option maxHeartbeats 4000000 in
theorem told_divide (a d : Addr) (w : World) (h : Laid10 a d w) :
    Calls Tryd.prog 21 #[overV d] w fun r w' => r = .returned (.int .i64 101) ∧ Below w.heap.size w w' := by
  obtain ⟨ca, ta, ha⟩ := h.rowA
  obtain ⟨cd, td, hd⟩ := h.rowD
  have l1 := cell_lt h.over
  have l2 := cell_lt h.divide
  have la := row_lt ha
  have ld := row_lt hd
  have hg := h.over
  have hg2 := h.divide
  have hne := h.ne
  clear h
  unfold OverAt at hg
  unfold DivideAt at hg2
  have I1 := fun (v : Value) (t : TypeId) => is_other d a cd ca td ta (w.alloc (.cells #[v] t)) (fun e => hne e.symm) ((((Below.refl w.heap.size w).alloc (Nat.le_refl _) _).block _ ld).trans hd) ((((Below.refl w.heap.size w).alloc (Nat.le_refl _) _).block _ la).trans ha)
  unfold overV
  go_enter Tryd.func21, Tryd.ntmps21
  go_wp2_with fail
  refine (I1 _ _).mono ?_
  rintro e w' ⟨rfl, rfl⟩
  go_wp2_with fail
  refine (is_same _ _).mono ?_
  rintro e w' ⟨rfl, rfl⟩
  go_wp2_with fail
  go_ret
  exact ⟨rfl, (Below.refl _ _).alloc (Nat.le_refl _) _⟩

set_option maxRecDepth 100000 in
set_option maxHeartbeats 4000000 in
theorem told_domain (a d : Addr) (g : ByteArray) (w : World) (h : Laid10 a d w) :
    Calls Tryd.prog 21 #[.iface 39 (.agg #[.string g])] w fun r w' => r = .returned (.int .i64 102) ∧ Below w.heap.size w w' := by
  have l1 := cell_lt h.over
  have l2 := cell_lt h.divide
  have l3 := cell_lt h.handle
  have hg := h.over
  have hg2 := h.divide
  have hh := h.handle
  clear h
  unfold OverAt at hg
  unfold DivideAt at hg2
  have I1 := fun (v : Value) (t : TypeId) => as_hit g ⟨w.heap.size, 0, none⟩ v (w.alloc (.cells #[v] t)) ((World.cell?_alloc_lt _ _ _ l3).trans hh) (by simp) (by simp)
  go_enter Tryd.func21, Tryd.ntmps21
  go_wp2_with fail
  refine (is_domain _ _ _).mono ?_
  rintro e w' ⟨rfl, rfl⟩
  go_wp2_with fail
  refine (is_domain _ _ _).mono ?_
  rintro e w' ⟨rfl, rfl⟩
  go_wp2_with fail
  refine (I1 _ _).mono ?_
  rintro e w' ⟨rfl, rfl⟩
  go_wp2_with fail
  go_ret
  refine ⟨rfl, ?_⟩
  repeat (refine Below.alloc ?_ (by simp <;> omega) _)
  exact Below.refl _ _

/-- What is told of a code's error. -/
theorem told_any (a d : Addr) (g : ByteArray) (c : Int) (w : World) (hc : Code c) (h : Laid10 a d w) :
    Calls Tryd.prog 21 #[errV a d g c] w fun r w' => r = .returned (.int .i64 c) ∧ Below w.heap.size w w' := by
  rcases hc with rfl | rfl | rfl | rfl
  · simpa [errV] using told_nil a d w h.over h.divide
  · simpa [errV] using told_over a w h.over
  · simpa [errV] using told_divide a d w h
  · simpa [errV] using told_domain a d g w h
end Go.Proofs.YtkghmcfbhojbaaaDoor
