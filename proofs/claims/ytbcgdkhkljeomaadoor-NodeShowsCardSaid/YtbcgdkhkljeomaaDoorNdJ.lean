/-
  errors.Is at the sentinel itself, and what is told of it.
-/
import Derived.Test.YtbcgdkhkljeomaaDoorProg
import Derived.WalkKit
import Derived.LaidEql
import Derived.Stop.Asserts
import Derived.RowKitTokens
set_option linter.unusedSimpArgs false
set_option linter.unusedVariables false
namespace Go.Proofs.YtbcgdkhkljeomaaDoor
open Go.RowKit Go.Extern.Stop Go.Stop Go.Extern

theorem isTypeOf (v : Value) (w : World) : (Extern.ReflectliteType.typeOf #[.iface 119 v]).run Tryd.prog w = .ok (.iface 90 (.agg #[.pointer (some ⟨5, 119, none⟩)])) w := by kernel_rfl
theorem isComparable (w : World) : (callFunc 97 #[.agg #[.pointer (some ⟨5, 119, none⟩)]]).run Tryd.prog w = .ok (.value (.bool true)) w := by kernel_rfl
theorem isMethodComparable (v : Value) (w : World) : (Go.method 253 90 v "Comparable").run Tryd.prog w = .ok (97, v) w := by kernel_rfl
theorem isComp : (Tryd.prog.info? 119).map (·.comparable) = some true := by kernel_rfl
theorem isSize : (Tryd.prog.info? 142).map (·.size) = some 1 := by kernel_rfl

set_option maxRecDepth 100000 in
set_option maxHeartbeats 1000000 in
/-- errors.Is(x, x), x a pointer to an errors.errorString. -/
theorem is_same (a : Addr) (w : World) :
    Calls Tryd.prog 46 #[.iface 119 (.pointer (some a)), .iface 119 (.pointer (some a))] w fun e w' => e = .returned (.bool true) ∧ w = w' := by
  obtain ⟨i, hi, hcmp⟩ := Option.map_eq_some_iff.1 isComp
  obtain ⟨j, hj, hjs⟩ := Option.map_eq_some_iff.1 isSize
  have h8 := @run_callFunc_extern Tryd.prog 55 _ Extern.ReflectliteType.typeOf Tryd.func55 (by kernel_rfl) (by kernel_rfl) (by kernel_rfl) (by kernel_rfl)
  have tT := isTypeOf
  have cT := isComparable
  have mR := isMethodComparable
  have heq := run_eql_iface_ptr_same (P := Tryd.prog) w a Tryd.underlying48 Tryd.underlying119 hi hcmp hj
  go_enter Tryd.func46, Tryd.ntmps46
  go_wp2
  refine wp_loop_rounds 1 ?_
  rw [rounds_succ]
  go_wp2
  go_ret
  exact ⟨rfl, rfl⟩

set_option maxHeartbeats 1000000 in
theorem told_err (a : Addr) (w : World) (hg : w.cell? ⟨0, 0, none⟩ = some (.iface 119 (.pointer (some a)))) :
    Calls Tryd.prog 29 #[.iface 119 (.pointer (some a))] w fun e w' => e = .returned (.int .i64 70) ∧ w = w' := by
  go_enter Tryd.func29, Tryd.ntmps29
  go_wp2_with (go_at_call 46; refine (is_same _ _).mono ?_; rintro e w' ⟨rfl, rfl⟩)
  go_ret
  exact ⟨rfl, rfl⟩
end Go.Proofs.YtbcgdkhkljeomaaDoor
