/-
  Sums and differences of layer 10.
-/
import Derived.Test.YtkghmcfbhojbaaaDoorProg
import Derived.Test.YtkghmcfbhojbaaaDoorReg
import Derived.WalkKit
import Derived.WalkSpells
import Derived.WalkLawsBesides
import Derived.Lib.Hide
import Derived.Lib.MinMax
import Derived.Deep.QuietTactic
import Derived.BigQuiet
import Derived.OwnWalk
import Derived.Deep.AppendLies
import Derived.KernelRfl
import Derived.Test.YtkghmcfbhojbaaaDoorNumA
set_option linter.unusedSimpArgs false
set_option linter.unusedVariables false
namespace Go.Proofs.YtkghmcfbhojbaaaDoor
open Go.RowKit

/-- The errors lie where the program has laid them. -/
def overV (b : Addr) : Value := .iface 101 (.pointer (some b))
def OverAt (b : Addr) (w : World) : Prop := w.cell? ⟨0, 0, none⟩ = some (.iface 101 (.pointer (some b)))
def DivideAt (b : Addr) (w : World) : Prop := w.cell? ⟨1, 0, none⟩ = some (.iface 101 (.pointer (some b)))

theorem cell_lt {w : World} {p : Addr} {v : Value} (h : w.cell? p = some v) : p.block < w.heap.size := by
  rcases Nat.lt_or_ge p.block w.heap.size with h1 | h1
  · exact h1
  · simp [World.cell?, Array.getElem?_eq_none h1] at h
theorem OverAt.below {b : Addr} {w w' : World} (h : OverAt b w) (hb : Below w.heap.size w w') : OverAt b w' := (hb.cell (p := ⟨0, 0, none⟩) (cell_lt h)).trans h
theorem DivideAt.below {b : Addr} {w w' : World} (h : DivideAt b w) (hb : Below w.heap.size w w') : DivideAt b w' := (hb.cell (p := ⟨1, 0, none⟩) (cell_lt h)).trans h

def okAdd (x y s : Int) : Bool := (decide (x < 0) != decide (y < 0)) || (decide (s < 0) == decide (x < 0))

set_option maxRecDepth 100000 in
set_option maxHeartbeats 4000000 in
theorem add_any (x y : Int) (b : Addr) (w : World) (hg : OverAt b w) :
    Calls Tryd.prog 31 #[.agg #[.int .i64 x, .int .i64 y]] w fun r w' => r = .returned (mustOut (IntKind.i64.wrap (x + y)) (overV b) (okAdd x y (IntKind.i64.wrap (x + y)))) ∧ Below w.heap.size w w' := by
  have hlt := cell_lt hg
  unfold OverAt at hg
  generalize hs : IntKind.i64.wrap (x + y) = s
  go_enter Tryd.func31, Tryd.ntmps31
  by_cases h1 : x < 0 <;> by_cases h2 : y < 0 <;> by_cases h3 : s < 0
  all_goals
    go_wp2_with fail
    refine (must1 _ _ _ _ _ _ _ (by simp)).mono ?_
    rintro r w' ⟨rfl, rfl⟩
    go_wp2_with fail
    go_ret2
    exact ⟨by first | (simp [mustOut, okAdd, overV, h1, h2, h3]; done) | (simp [mustOut, okAdd, overV, h1, h2, h3]; omega), ((Below.refl _ _).alloc (Nat.le_refl _) _).alloc (by simp) _⟩

def okTake (x y s : Int) : Bool := (decide (x < 0) == decide (y < 0)) || (decide (s < 0) == decide (x < 0))

set_option maxRecDepth 100000 in
set_option maxHeartbeats 4000000 in
theorem take_any (x y : Int) (b : Addr) (w : World) (hg : OverAt b w) :
    Calls Tryd.prog 32 #[.agg #[.int .i64 x, .int .i64 y]] w fun r w' => r = .returned (mustOut (IntKind.i64.wrap (x - y)) (overV b) (okTake x y (IntKind.i64.wrap (x - y)))) ∧ Below w.heap.size w w' := by
  have hlt := cell_lt hg
  unfold OverAt at hg
  generalize hs : IntKind.i64.wrap (x - y) = s
  go_enter Tryd.func32, Tryd.ntmps32
  by_cases h1 : x < 0 <;> by_cases h2 : y < 0 <;> by_cases h3 : s < 0
  all_goals
    go_wp2_with fail
    refine (must1 _ _ _ _ _ _ _ (by simp)).mono ?_
    rintro r w' ⟨rfl, rfl⟩
    go_wp2_with fail
    go_ret2
    exact ⟨by first | (simp [mustOut, okTake, overV, h1, h2, h3]; done) | (simp [mustOut, okTake, overV, h1, h2, h3]; omega), ((Below.refl _ _).alloc (Nat.le_refl _) _).alloc (by simp) _⟩
end Go.Proofs.YtkghmcfbhojbaaaDoor
