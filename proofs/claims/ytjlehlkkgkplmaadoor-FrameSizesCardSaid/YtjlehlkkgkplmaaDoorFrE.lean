/-
  A new reader, how much is left, a nil reader: by the program.
-/
import Derived.Test.YtjlehlkkgkplmaaDoorProg
import Derived.Test.YtjlehlkkgkplmaaDoorReg
import Derived.WalkKit
import Derived.WalkSpells
import Derived.WalkLawsBesides
import Derived.Lib.Hide
import Derived.Lib.MinMax
import Derived.Deep.QuietTactic
import Derived.BigQuiet
import Derived.OwnWalk
import Derived.Deep.AppendLies
import Derived.KernelRfl
import Derived.Test.YtjlehlkkgkplmaaDoorFrC
set_option linter.unusedSimpArgs false
set_option linter.unusedVariables false
namespace Go.Proofs.YtjlehlkkgkplmaaDoor
open Go Go.RowKit

/-- The error's value: none, or 'no frame'. -/
def errVal (a : Addr) (bad : Bool) : Value := if bad then .iface 126 (.pointer (some a)) else .nilIface
/-- The reader at X keeps s; is it wrong? -/
def IsRd (w : World) (X : Nat) (a : Addr) (s : ByteArray) (bad : Bool) : Prop := w.heap[X]? = some (.cells #[.string s, errVal a bad] 56 (0, 0))
theorem IsRd.below {w w' : World} {X : Nat} {a : Addr} {s : ByteArray} {bad : Bool} (h : IsRd w X a s bad) (hb : Below w.heap.size w w') : IsRd w' X a s bad := (hb.block X (Array.getElem?_eq_some_iff.1 h).1).trans h

theorem New_rd (a : Addr) (w : World) :
    Calls Tryd.prog 17 #[] w fun e w' => e = .returned (.pointer (some ⟨w.heap.size, 0, none⟩)) ∧ IsRd w' w.heap.size a ⟨#[]⟩ false ∧ Below w.heap.size w w' := by
  have h1 := heap_alloc_new w (.cells #[.string ⟨#[]⟩, .nilIface] 56)
  have h2 := below_new w (.cells #[.string ⟨#[]⟩, .nilIface] 56)
  go_enter Tryd.func17, Tryd.ntmps17
  go_wp2_with fail
  go_ret
  exact ⟨rfl, h1, h2⟩

set_option maxRecDepth 100000 in
theorem Left_rd (X : Nat) (a : Addr) (s : ByteArray) (bad : Bool) (w : World) (hs : s.size ≤ 1000000) (h : IsRd w X a s bad) :
    Calls Tryd.prog 20 #[.pointer (some ⟨X, 0, none⟩)] w fun e w' => e = .returned (.int .i64 s.size) ∧ w' = w := by
  have c0 : w.cell? ⟨X, 0, none⟩ = some (.string s) := by simp [World.cell?, show w.heap[X]? = _ from h]
  clear h
  go_enter Tryd.func20, Tryd.ntmps20
  go_wp2_with fail
  go_ret
  exact ⟨rfl, rfl⟩
theorem Left_nil (w : World) : Calls Tryd.prog 20 #[.pointer none] w fun e w' => e = .returned (.int .i64 0) ∧ w' = w := by
  go_enter Tryd.func20, Tryd.ntmps20
  go_wp2_with fail
  go_ret
  exact ⟨rfl, rfl⟩
set_option maxRecDepth 100000 in
theorem Feed_nil (s : ByteArray) (w : World) : Calls Tryd.prog 18 #[.pointer none, .string s] w fun e w' => e = .returned (.tuple #[.slice none 0 0, .int .i64 1]) ∧ w' = w := by
  go_enter Tryd.func18, Tryd.ntmps18
  go_wp2_with fail
  go_ret2
  exact ⟨rfl, rfl⟩
set_option maxRecDepth 100000 in
theorem Feed_bad (X : Nat) (a : Addr) (t s : ByteArray) (w : World) (h : IsRd w X a t true) (hL : LaidF a w) :
    Calls Tryd.prog 18 #[.pointer (some ⟨X, 0, none⟩), .string s] w fun e w' => e = .returned (.tuple #[.slice none 0 0, .int .i64 160]) ∧ w' = w := by
  have c1 : w.cell? ⟨X, 1, none⟩ = some (.iface 126 (.pointer (some a))) := by simp [World.cell?, show w.heap[X]? = _ from h, errVal]
  have HT := Lib.hid (told_frame a w hL.err)
  clear h hL
  go_enter Tryd.func18, Tryd.ntmps18
  go_wp2_with fail
  refine HT.out.mono ?_
  rintro e w' ⟨rfl, rfl⟩
  go_wp2_with fail
  go_ret2
  exact ⟨rfl, rfl⟩
end Go.Proofs.YtjlehlkkgkplmaaDoor
