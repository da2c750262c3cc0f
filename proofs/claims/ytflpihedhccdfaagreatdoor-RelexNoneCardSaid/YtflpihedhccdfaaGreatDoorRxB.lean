/-
  The count of lines lexed: sync/atomic's Add and Load.
-/
import Derived.Test.YtflpihedhccdfaaGreatDoorProg
import Derived.Test.YtflpihedhccdfaaGreatDoorReg
import Derived.WalkKit
import Derived.WalkSpells
import Derived.WalkLawsBesides
import Derived.Lib.Hide
import Derived.Lib.MinMax
import Derived.Deep.QuietTactic
import Derived.BigQuiet
import Derived.OwnWalk
import Derived.Deep.AppendLies
import Derived.KernelRfl
import Derived.Laws.LoneSync
import Derived.Test.YtflpihedhccdfaaGreatDoorRxX
set_option linter.unusedSimpArgs false
set_option linter.unusedVariables false
namespace Go.Proofs.YtflpihedhccdfaaGreatDoor
open Go.RowKit Go.Maps

set_option maxRecDepth 100000 in
theorem Add_any (X o : Nat) (q d : Int) (w : World) (hc : w.cell? ⟨X, o, none⟩ = some (.int .i64 q)) (hz : w.frozen? ⟨X, o, none⟩ = false) (hq : -9223372036854775808 ≤ q + d) (hq2 : q + d ≤ 9223372036854775807) :
    Calls Tryz.prog 39 #[.pointer (some ⟨X, o, none⟩), .int .i64 d] w fun e w' => e = .returned (.int .i64 (q + d)) ∧ w' = w.setCell ⟨X, o, none⟩ (.int .i64 (q + d)) := by
  have hs : (Op.intArith .add .i64 q d).run Tryz.prog w = .ok (.int .i64 (q + d)) w := by
    have e2 : IntKind.i64.wrap (q + d) = q + d := by rw [IntKind.wrap_i64]; omega
    simp [Op.intArith, e2]
  have hA := run_call_add (P := Tryz.prog) Tryz.func57 (by kernel_rfl) (by kernel_rfl) (by kernel_rfl) .i64 (by kernel_rfl) hc hz hs
  go_enter Tryz.func39, Tryz.ntmps39
  go_wp2_with fail
  go_ret
  exact ⟨rfl, rfl⟩

set_option maxRecDepth 100000 in
theorem Load_any (X o : Nat) (q : Int) (w : World) (hc : w.cell? ⟨X, o, none⟩ = some (.int .i64 q)) :
    Calls Tryz.prog 32 #[.pointer (some ⟨X, o, none⟩)] w fun e w' => e = .returned (.int .i64 q) ∧ w' = w := by
  have hA := run_call_load (P := Tryz.prog) Tryz.func44 (by kernel_rfl) (by kernel_rfl) (by kernel_rfl) .i64 (by kernel_rfl) hc
  go_enter Tryz.func32, Tryz.ntmps32
  go_wp2_with fail
  go_ret
  exact ⟨rfl, rfl⟩
end Go.Proofs.YtflpihedhccdfaaGreatDoor
