/-
  What is told of the errors of layer 5.
-/
import Derived.Test.YtflpihedhccdfaaGreatDoorProg
import Derived.Test.YtflpihedhccdfaaGreatDoorReg
import Derived.WalkKit
import Derived.WalkSpells
import Derived.WalkLawsBesides
import Derived.Lib.Hide
import Derived.Lib.MinMax
import Derived.Deep.QuietTactic
import Derived.BigQuiet
import Derived.OwnWalk
import Derived.Deep.AppendLies
import Derived.KernelRfl
import Derived.Test.YtflpihedhccdfaaGreatDoorRxK
import Derived.Test.YtflpihedhccdfaaGreatDoorLxM2
set_option linter.unusedSimpArgs false
set_option linter.unusedVariables false
namespace Go.Proofs.YtflpihedhccdfaaGreatDoor
open Go.RowKit

def sentV (b : Addr) : Value := .iface 226 (.pointer (some b))
theorem row_lt {w : World} {b : Nat} {o : Obj} (h : w.heap[b]? = some o) : b < w.heap.size := (Array.getElem?_eq_some_iff.1 h).1
/-- What the program has laid, of layer 5: two errors. -/
structure Laid5 (a d : Addr) (w : World) : Prop where
  range : w.cell? ⟨1, 0, none⟩ = some (.iface 226 (.pointer (some a)))
  full : w.cell? ⟨0, 0, none⟩ = some (.iface 226 (.pointer (some d)))
  ne : a ≠ d
  rowA : ∃ c t, w.heap[a.block]? = some (.cells c t (0, 0))
  rowD : ∃ c t, w.heap[d.block]? = some (.cells c t (0, 0))
theorem Laid5.below {a d : Addr} {w w' : World} (h : Laid5 a d w) (hb : Below w.heap.size w w') : Laid5 a d w' where
  range := (hb.cell (p := ⟨1, 0, none⟩) (cell_lt h.range)).trans h.range
  full := (hb.cell (p := ⟨0, 0, none⟩) (cell_lt h.full)).trans h.full
  ne := h.ne
  rowA := by obtain ⟨c, t, e⟩ := h.rowA; exact ⟨c, t, (hb.block _ (row_lt e)).trans e⟩
  rowD := by obtain ⟨c, t, e⟩ := h.rowD; exact ⟨c, t, (hb.block _ (row_lt e)).trans e⟩

set_option maxRecDepth 100000 in
set_option maxHeartbeats 4000000 in
theorem told_range (a d : Addr) (w : World) (h : Laid5 a d w) :
    Calls Tryz.prog 26 #[.iface 226 (.pointer (some a))] w fun r w' => r = .returned (.int .i64 10) ∧ w' = w := by
  have hg := h.range
  have l1 := cell_lt hg
  clear h
  go_enter Tryz.func26, Tryz.ntmps26
  go_wp2_with (go_at_call 37; refine (is_same _ _).mono ?_; rintro e w' ⟨rfl, rfl⟩)
  go_ret
  exact ⟨rfl, rfl⟩

set_option maxRecDepth 100000 in
set_option maxHeartbeats 4000000 in
theorem told_full (a d : Addr) (w : World) (h : Laid5 a d w) :
    Calls Tryz.prog 26 #[.iface 226 (.pointer (some d))] w fun r w' => r = .returned (.int .i64 11) ∧ w' = w := by
  obtain ⟨ca, ta, ha⟩ := h.rowA
  obtain ⟨cd, td, hd⟩ := h.rowD
  have l1 := cell_lt h.range
  have l2 := cell_lt h.full
  have hg := h.range
  have hg2 := h.full
  have I1 := is_other d a cd ca td ta w (fun e => h.ne e.symm) hd ha
  clear h
  go_enter Tryz.func26, Tryz.ntmps26
  go_wp2_with fail
  refine I1.mono ?_
  rintro e w' ⟨rfl, rfl⟩
  go_wp2_with fail
  refine (is_same _ _).mono ?_
  rintro e w' ⟨rfl, rfl⟩
  go_wp2_with fail
  go_ret
  exact ⟨rfl, rfl⟩
end Go.Proofs.YtflpihedhccdfaaGreatDoor
