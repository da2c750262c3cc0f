/-
  What an error tells: errors.As by its contract, at the errors of layer 18.
-/
import Derived.Test.YtamclieppbnpiabGreatDoorProg
import Derived.Test.YtamclieppbnpiabGreatDoorReg
import Derived.WalkKit
import Derived.WalkSpells
import Derived.WalkLawsBesides
import Derived.Lib.Hide
import Derived.Lib.MinMax
import Derived.Deep.QuietTactic
import Derived.BigQuiet
import Derived.OwnWalk
import Derived.Deep.AppendLies
import Derived.KernelRfl
import Derived.Stop.Asserts
import Derived.Test.YtamclieppbnpiabGreatDoorJw6
set_option linter.unusedSimpArgs false
set_option linter.unusedVariables false
namespace Go.Proofs.YtamclieppbnpiabGreatDoor
open Go Go.RowKit Go.Extern.Stop Go.Stop Go.Extern
theorem as_valueOf27 (t : Addr) (w : World) : (ReflectliteValue.unpack (.iface 61 (.pointer (some t)))).run Tryz.prog w
    = .ok (.agg #[.pointer (some ⟨10, 61, none⟩), .pointer (some ⟨w.heap.size, 0, none⟩), .int .u64 150]) (w.alloc (.cells #[.pointer (some t)] 61)) := by kernel_rfl
theorem as_type27 (a : Addr) (w : World) : (ReflectliteValue.methodAny (ReflectliteValue.valueError "reflectlite.Value.Type" 0) (fun t _ _ _ => ReflectliteType.toType t) #[.agg #[.pointer (some ⟨10, 61, none⟩), .pointer (some a), .int .u64 150]]).run Tryz.prog w
    = .ok (.iface 117 (.agg #[.pointer (some ⟨10, 61, none⟩)])) w := by kernel_rfl
theorem as_methodKind (h : Value) (w : World) : (Go.method 309 117 (.agg #[h]) "Kind").run Tryz.prog w = .ok (136, h) w := by kernel_rfl
theorem as_kind27 (w : World) : ((ReflectliteType.abiMethod fun t => (fun a : Nat => Value.int IntKind.u8 (a : Int)) <$> Rtype.kind t) #[.pointer (some ⟨10, 61, none⟩)]).run Tryz.prog w = .ok (.int .u8 22) w := by kernel_rfl
theorem as_kind25 (w : World) : ((ReflectliteType.abiMethod fun t => (fun a : Nat => Value.int IntKind.u8 (a : Int)) <$> Rtype.kind t) #[.pointer (some ⟨10, 59, none⟩)]).run Tryz.prog w = .ok (.int .u8 25) w := by kernel_rfl
theorem rlm (z : Sem Value) (f : TypeId → Addr → Nat → Nat → Sem Value) (v : Value) :
    ReflectliteValue.method z f #[v] = (do match ← ReflectliteValue.parts v with | none => z | some (t, a, fl) => f t a fl (fl % 32)) := rfl
theorem as_parts27 (a : Addr) (w : World) : (ReflectliteValue.parts (.agg #[.pointer (some ⟨10, 61, none⟩), .pointer (some a), .int .u64 150])).run Tryz.prog w = .ok (some (61, a, 150)) w := by kernel_rfl
/-- (Value).IsNil at the Value of a **p.E that is not nil. -/
theorem as_isNil27 (a p : Addr) (W : World) (ha : W.cell? a = some (.pointer (some p))) :
    (ReflectliteValue.method (ReflectliteValue.valueError "reflectlite.Value.IsNil" 0) ReflectliteValue.isNil #[.agg #[.pointer (some ⟨10, 61, none⟩), .pointer (some a), .int .u64 150]]).run Tryz.prog W = .ok (.bool false) W := by
  rw [rlm]
  simp only [Sem.run_bind, as_parts27, Result.andThen]
  simp [ReflectliteValue.isNil, loadVar, isAgg, underlying, Tryz.underlying61, ha, Result.andThen]
theorem as_methodElem (h : Value) (w : World) : (Go.method 309 117 (.agg #[h]) "Elem").run Tryz.prog w = .ok (148, .agg #[h]) w := by kernel_rfl
theorem as_methodImplements (h : Value) (w : World) : (Go.method 309 117 (.agg #[h]) "Implements").run Tryz.prog w = .ok (149, .agg #[h]) w := by kernel_rfl
theorem as_methodAssignableTo (h : Value) (w : World) : (Go.method 309 117 (.agg #[h]) "AssignableTo").run Tryz.prog w = .ok (146, .agg #[h]) w := by kernel_rfl
theorem as_elem27 (w : World) : (ReflectliteType.method ReflectliteType.elem #[.agg #[.pointer (some ⟨10, 61, none⟩)]]).run Tryz.prog w = .ok (.iface 117 (.agg #[.pointer (some ⟨10, 59, none⟩)])) w := by kernel_rfl
theorem as_implements25 (w : World) : (ReflectliteType.relation "Implements" ReflectliteType.implements_ #[.agg #[.pointer (some ⟨10, 59, none⟩)], .iface 117 (.agg #[.pointer (some ⟨10, 44, none⟩)])]).run Tryz.prog w = .ok (.bool true) w := by kernel_rfl
theorem as_typeOf25 (v : Value) (w : World) : (ReflectliteType.typeOf #[.iface 59 v]).run Tryz.prog w = .ok (.iface 117 (.agg #[.pointer (some ⟨10, 59, none⟩)])) w := by kernel_rfl
theorem as_assignable25 (w : World) : (ReflectliteType.relation "AssignableTo" ReflectliteType.assignableTo #[.agg #[.pointer (some ⟨10, 59, none⟩)], .iface 117 (.agg #[.pointer (some ⟨10, 59, none⟩)])]).run Tryz.prog w = .ok (.bool true) w := by kernel_rfl
theorem as_valueOf25 (c : Int) (e : Value) (w : World) : (ReflectliteValue.unpack (.iface 59 (.agg #[.int .i64 c, e]))).run Tryz.prog w
    = .ok (.agg #[.pointer (some ⟨10, 59, none⟩), .pointer (some ⟨w.heap.size, 0, none⟩), .int .u64 153]) (w.alloc (.cells #[.int .i64 c, e] 59)) := by kernel_rfl
theorem as_elemOf27 (w : World) : (Rtype.elem? 61).run Tryz.prog w = .ok (some 59) w := by kernel_rfl
theorem as_mk25 (p : Addr) (w : World) : (ReflectliteValue.mk 59 p ReflectliteValue.flagAddr).run Tryz.prog w = .ok (.agg #[.pointer (some ⟨10, 59, none⟩), .pointer (some p), .int .u64 409]) w := by kernel_rfl
/-- (Value).Elem at the Value of a **p.E that is not nil: the Value of the *p.E variable that it points to, addressable. -/
theorem as_elemV27 (a p : Addr) (W : World) (ha : W.cell? a = some (.pointer (some p))) :
    (ReflectliteValue.method (ReflectliteValue.valueError "reflectlite.Value.Elem" 0) ReflectliteValue.elem #[.agg #[.pointer (some ⟨10, 61, none⟩), .pointer (some a), .int .u64 150]]).run Tryz.prog W
      = .ok (.agg #[.pointer (some ⟨10, 59, none⟩), .pointer (some p), .int .u64 409]) W := by
  rw [rlm]
  simp only [Sem.run_bind, as_parts27, Result.andThen]
  simp [ReflectliteValue.elem, loadVar, isAgg, underlying, Tryz.underlying61, ha, Result.andThen, as_elemOf27, as_mk25]
theorem rls (v x : Value) : ReflectliteValue.set #[v, x] = (do
    let (some (dst, a, fl), some (src, b, _)) := (← ReflectliteValue.parts v, ← ReflectliteValue.parts x)
      | unsupported (.noEntry "extern/(internal/reflectlite.Value).Set.zeroValue")
    if fl / ReflectliteValue.flagAddr % 2 == 0 then unsupported (.noEntry "extern/(internal/reflectlite.Value).Set.unaddressable")
    let val ← loadVar src b
    if ← Rtype.directlyAssignable dst src then storeVar dst a val
    else if ← Rtype.implements dst src then
      if (← Rtype.kind src) == 20 then
        match val with
        | .nilIface => unsupported (.noEntry "extern/reflectlite: a nil value of one interface type handed on as a value of another")
        | _ => storeVar dst a val
      else storeVar dst a (.iface src val)
    else panicString ("reflectlite.Set: value of type " ++ (← Rtype.spelt src) ++ " is not assignable to type " ++ (← Rtype.spelt dst))
    pure (.tuple #[])) := rfl
theorem as_parts25a (a : Addr) (w : World) : (ReflectliteValue.parts (.agg #[.pointer (some ⟨10, 59, none⟩), .pointer (some a), .int .u64 409])).run Tryz.prog w = .ok (some (59, a, 409)) w := by kernel_rfl
theorem as_parts25 (a : Addr) (w : World) : (ReflectliteValue.parts (.agg #[.pointer (some ⟨10, 59, none⟩), .pointer (some a), .int .u64 153])).run Tryz.prog w = .ok (some (59, a, 153)) w := by kernel_rfl
theorem as_direct25 (w : World) : (Rtype.directlyAssignable 59 59).run Tryz.prog w = .ok true w := by kernel_rfl
theorem as_size25 (w : World) : (sizeOf 59).run Tryz.prog w = .ok 2 w := by kernel_rfl
/-- (Value).Set: the variable at block tb gets what the Value's own variable 'b' holds. -/
theorem as_set25 (tb : Nat) (b : Addr) (c : Int) (e : Value) (he : e.oneCell' = true) (o0 o1 : Value) (W : World) (h0 : W.cell? (b.add 0) = some (.int .i64 c)) (h1 : W.cell? (b.add 1) = some e)
    (ht : W.heap[tb]? = some (.cells #[o0, o1] 59 (0, 0))) :
    (ReflectliteValue.set #[.agg #[.pointer (some ⟨10, 59, none⟩), .pointer (some ⟨tb, 0, none⟩), .int .u64 409], .agg #[.pointer (some ⟨10, 59, none⟩), .pointer (some b), .int .u64 153]]).run Tryz.prog W
      = .ok (.tuple #[]) (W.setRow tb #[.int .i64 c, e]) := by
  have el : (loadCells b 2).run Tryz.prog W = .ok #[.int .i64 c, e] W := by
    have h := run_loadCells_list (P := Tryz.prog) W b [.int .i64 c, e] (fun j u hj => by
      match j, hj with
      | 0, hj => simp at hj; subst hj; exact h0
      | 1, hj => simp at hj; subst hj; exact h1
      | j + 2, hj => simp at hj)
    simpa using h
  have es := run_storeCells_at Tryz.prog tb 0 59 [.int .i64 c, e] 0 #[o0, o1] W ht (by simp) (by intro v hv; simp at hv; rcases hv with rfl | rfl; rfl; exact he)
  rw [rls]
  simp only [Sem.run_bind, as_parts25a, as_parts25, Result.andThen]
  simp [ReflectliteValue.flagAddr, loadVar, isAgg, underlying, Tryz.underlying59, Result.andThen, as_direct25, el, as_size25, storeVar, Value.cells, es]
set_option maxRecDepth 100000 in
set_option maxHeartbeats 4000000 in
theorem as_hit (c : Int) (e : Value) (he : e.oneCell' = true) (tb : Nat) (o0 o1 : Value) (w : World) (hg : w.cell? ⟨3, 0, none⟩ = some (.iface 117 (.agg #[.pointer (some ⟨10, 44, none⟩)]))) (ht0 : w.heap[tb]? = some (.cells #[o0, o1] 59 (0, 0))) :
    Calls Tryz.prog 25 #[.iface 59 (.agg #[.int .i64 c, e]), .iface 61 (.pointer (some ⟨tb, 0, none⟩))] w fun ev w' => ev = .returned (.bool true) ∧ w' = ((((w.alloc (.cells #[.pointer (some ⟨tb, 0, none⟩)] 61)).alloc (.cells #[.pointer (some ⟨10, 61, none⟩), .pointer (some ⟨w.heap.size, 0, none⟩), .int .u64 150] 90)).alloc (.cells #[.pointer (some ⟨10, 61, none⟩), .pointer (some ⟨w.heap.size, 0, none⟩), .int .u64 150] 90)).alloc (.cells #[.int .i64 c, e] 59)).setRow tb #[.int .i64 c, e] := by
  have h6 := @run_callFunc_extern Tryz.prog 44 _ (fun args => ReflectliteValue.unpack (args.getD 0 (.tuple #[]))) Tryz.func44 (by kernel_rfl) (by kernel_rfl) (by kernel_rfl) (by kernel_rfl)
  have h7 := @run_callFunc_extern Tryz.prog 45 _ (ReflectliteValue.methodAny (ReflectliteValue.valueError "reflectlite.Value.Type" 0) (fun t _ _ _ => ReflectliteType.toType t)) Tryz.func45 (by kernel_rfl) (by kernel_rfl) (by kernel_rfl) (by kernel_rfl)
  have h8 := @run_callFunc_extern Tryz.prog 46 _ (ReflectliteValue.method (ReflectliteValue.valueError "reflectlite.Value.IsNil" 0) ReflectliteValue.isNil) Tryz.func46 (by kernel_rfl) (by kernel_rfl) (by kernel_rfl) (by kernel_rfl)
  have h27 := @run_callFunc_extern Tryz.prog 136 _ (ReflectliteType.abiMethod fun t => do pure (.int .u8 (← Rtype.kind t))) Tryz.func136 (by kernel_rfl) (by kernel_rfl) (by kernel_rfl) (by kernel_rfl)
  have h37 := @run_callFunc_extern Tryz.prog 148 _ (ReflectliteType.method ReflectliteType.elem) Tryz.func148 (by kernel_rfl) (by kernel_rfl) (by kernel_rfl) (by kernel_rfl)
  have h38 := @run_callFunc_extern Tryz.prog 149 _ (ReflectliteType.relation "Implements" ReflectliteType.implements_) Tryz.func149 (by kernel_rfl) (by kernel_rfl) (by kernel_rfl) (by kernel_rfl)
  have h10 := @run_callFunc_extern Tryz.prog 64 _ ReflectliteType.typeOf Tryz.func64 (by kernel_rfl) (by kernel_rfl) (by kernel_rfl) (by kernel_rfl)
  have h35 := @run_callFunc_extern Tryz.prog 146 _ (ReflectliteType.relation "AssignableTo" ReflectliteType.assignableTo) Tryz.func146 (by kernel_rfl) (by kernel_rfl) (by kernel_rfl) (by kernel_rfl)
  have h11 := @run_callFunc_extern Tryz.prog 65 _ (ReflectliteValue.method (ReflectliteValue.valueError "reflectlite.Value.Elem" 0) ReflectliteValue.elem) Tryz.func65 (by kernel_rfl) (by kernel_rfl) (by kernel_rfl) (by kernel_rfl)
  have h12 := @run_callFunc_extern Tryz.prog 66 _ ReflectliteValue.set Tryz.func66 (by kernel_rfl) (by kernel_rfl) (by kernel_rfl) (by kernel_rfl)
  have tO := as_typeOf25
  have mA := as_methodAssignableTo
  have a25 := as_assignable25
  have v25 := as_valueOf25
  have f6 := as_valueOf27
  have f7 := as_type27
  have mK := as_methodKind
  have mE := as_methodElem
  have mI := as_methodImplements
  have k27 := as_kind27
  have k25 := as_kind25
  have e27 := as_elem27
  have i25 := as_implements25
  have n8 := as_isNil27 ⟨w.heap.size, 0, none⟩ ⟨tb, 0, none⟩ ((w.alloc (.cells #[.pointer (some ⟨tb, 0, none⟩)] 61)).alloc (.cells #[.pointer (some ⟨10, 61, none⟩), .pointer (some ⟨w.heap.size, 0, none⟩), .int .u64 150] 90)) (by simp)
  have hlt : 3 < w.heap.size := cell_lt hg
  have hg2 : ((w.alloc (.cells #[.pointer (some ⟨tb, 0, none⟩)] 61)).alloc (.cells #[.pointer (some ⟨10, 61, none⟩), .pointer (some ⟨w.heap.size, 0, none⟩), .int .u64 150] 90)).cell? ⟨3, 0, none⟩ = some (.iface 117 (.agg #[.pointer (some ⟨10, 44, none⟩)])) := by
    rw [World.cell?_alloc_lt _ _ ⟨3, 0, none⟩ (by simp; omega), World.cell?_alloc_lt _ _ ⟨3, 0, none⟩ hlt]; exact hg
  have htl : tb < w.heap.size := (Array.getElem?_eq_some_iff.1 ht0).1
  have el := as_elemV27 ⟨w.heap.size, 0, none⟩ ⟨tb, 0, none⟩ (((w.alloc (.cells #[.pointer (some ⟨tb, 0, none⟩)] 61)).alloc (.cells #[.pointer (some ⟨10, 61, none⟩), .pointer (some ⟨w.heap.size, 0, none⟩), .int .u64 150] 90)).alloc (.cells #[.pointer (some ⟨10, 61, none⟩), .pointer (some ⟨w.heap.size, 0, none⟩), .int .u64 150] 90)) (by rw [World.cell?_alloc_lt _ _ ⟨w.heap.size, 0, none⟩ (by simp; omega)]; simp)
  have bel : Below w.heap.size w ((((w.alloc (.cells #[.pointer (some ⟨tb, 0, none⟩)] 61)).alloc (.cells #[.pointer (some ⟨10, 61, none⟩), .pointer (some ⟨w.heap.size, 0, none⟩), .int .u64 150] 90)).alloc (.cells #[.pointer (some ⟨10, 61, none⟩), .pointer (some ⟨w.heap.size, 0, none⟩), .int .u64 150] 90)).alloc (.cells #[.int .i64 c, e] 59)) := ((((Below.refl _ w).alloc (Nat.le_refl _) _).alloc (by simp) _).alloc (by simp; omega) _).alloc (by simp; omega) _
  have nw : ∀ j v, (#[.int .i64 c, e] : Array Value)[j]? = some v → ((((w.alloc (.cells #[.pointer (some ⟨tb, 0, none⟩)] 61)).alloc (.cells #[.pointer (some ⟨10, 61, none⟩), .pointer (some ⟨w.heap.size, 0, none⟩), .int .u64 150] 90)).alloc (.cells #[.pointer (some ⟨10, 61, none⟩), .pointer (some ⟨w.heap.size, 0, none⟩), .int .u64 150] 90)).alloc (.cells #[.int .i64 c, e] 59)).cell? ⟨w.heap.size + 1 + 1 + 1, j, none⟩ = some v := fun j v hj => by rw [World.cell?_alloc_at _ _ _ _ (by simp)]; exact hj
  have st := as_set25 tb ⟨w.heap.size + 1 + 1 + 1, 0, none⟩ c e he o0 o1 ((((w.alloc (.cells #[.pointer (some ⟨tb, 0, none⟩)] 61)).alloc (.cells #[.pointer (some ⟨10, 61, none⟩), .pointer (some ⟨w.heap.size, 0, none⟩), .int .u64 150] 90)).alloc (.cells #[.pointer (some ⟨10, 61, none⟩), .pointer (some ⟨w.heap.size, 0, none⟩), .int .u64 150] 90)).alloc (.cells #[.int .i64 c, e] 59))
    (nw 0 _ rfl) (nw 1 _ rfl) ((bel.block tb htl).trans ht0)
  clear bel nw
  go_enter Tryz.func25, Tryz.ntmps25
  go_wp2
  refine wp_loop_rounds 1 ?_
  rw [rounds_succ]
  go_wp2
  go_ret
  exact ⟨rfl, rfl⟩
theorem as_typeOfE (v : Value) (w : World) : (ReflectliteType.typeOf #[.iface 179 v]).run Tryz.prog w = .ok (.iface 117 (.agg #[.pointer (some ⟨10, 179, none⟩)])) w := by kernel_rfl
theorem as_assignableE (w : World) : (ReflectliteType.relation "AssignableTo" ReflectliteType.assignableTo #[.agg #[.pointer (some ⟨10, 179, none⟩)], .iface 117 (.agg #[.pointer (some ⟨10, 59, none⟩)])]).run Tryz.prog w = .ok (.bool false) w := by kernel_rfl
theorem noAsE (v : Value) (xT : TypeId) (w : World) : (Instr.typeAssert (.iface 179 v) xT 122 true).run Tryz.prog w = .ok (.tuple #[.nilIface, .bool false]) w := run_typeAssert_lacksB Tryz.underlying122 (by kernel_rfl) (by kernel_rfl) v xT w
theorem noUnwrapE (v : Value) (xT : TypeId) (w : World) : (Instr.typeAssert (.iface 179 v) xT 125 true).run Tryz.prog w = .ok (.tuple #[.nilIface, .bool false]) w := run_typeAssert_lacksB Tryz.underlying125 (by kernel_rfl) (by kernel_rfl) v xT w
theorem noUnwrapsE (v : Value) (xT : TypeId) (w : World) : (Instr.typeAssert (.iface 179 v) xT 127 true).run Tryz.prog w = .ok (.tuple #[.nilIface, .bool false]) w := run_typeAssert_lacksB Tryz.underlying127 (by kernel_rfl) (by kernel_rfl) v xT w
set_option maxRecDepth 100000 in
set_option maxHeartbeats 4000000 in
/-- errors.As: what is no such error. -/
theorem as_miss (a : Addr) (tb : Nat) (w : World) (hg : w.cell? ⟨3, 0, none⟩ = some (.iface 117 (.agg #[.pointer (some ⟨10, 44, none⟩)]))) :
    Calls Tryz.prog 25 #[errS a, .iface 61 (.pointer (some ⟨tb, 0, none⟩))] w fun ev w' => ev = .returned (.bool false) ∧ Below w.heap.size w w' := by
  have h6 := @run_callFunc_extern Tryz.prog 44 _ (fun args => ReflectliteValue.unpack (args.getD 0 (.tuple #[]))) Tryz.func44 (by kernel_rfl) (by kernel_rfl) (by kernel_rfl) (by kernel_rfl)
  have h7 := @run_callFunc_extern Tryz.prog 45 _ (ReflectliteValue.methodAny (ReflectliteValue.valueError "reflectlite.Value.Type" 0) (fun t _ _ _ => ReflectliteType.toType t)) Tryz.func45 (by kernel_rfl) (by kernel_rfl) (by kernel_rfl) (by kernel_rfl)
  have h8 := @run_callFunc_extern Tryz.prog 46 _ (ReflectliteValue.method (ReflectliteValue.valueError "reflectlite.Value.IsNil" 0) ReflectliteValue.isNil) Tryz.func46 (by kernel_rfl) (by kernel_rfl) (by kernel_rfl) (by kernel_rfl)
  have h27 := @run_callFunc_extern Tryz.prog 136 _ (ReflectliteType.abiMethod fun t => do pure (.int .u8 (← Rtype.kind t))) Tryz.func136 (by kernel_rfl) (by kernel_rfl) (by kernel_rfl) (by kernel_rfl)
  have h37 := @run_callFunc_extern Tryz.prog 148 _ (ReflectliteType.method ReflectliteType.elem) Tryz.func148 (by kernel_rfl) (by kernel_rfl) (by kernel_rfl) (by kernel_rfl)
  have h38 := @run_callFunc_extern Tryz.prog 149 _ (ReflectliteType.relation "Implements" ReflectliteType.implements_) Tryz.func149 (by kernel_rfl) (by kernel_rfl) (by kernel_rfl) (by kernel_rfl)
  have h10 := @run_callFunc_extern Tryz.prog 64 _ ReflectliteType.typeOf Tryz.func64 (by kernel_rfl) (by kernel_rfl) (by kernel_rfl) (by kernel_rfl)
  have h35 := @run_callFunc_extern Tryz.prog 146 _ (ReflectliteType.relation "AssignableTo" ReflectliteType.assignableTo) Tryz.func146 (by kernel_rfl) (by kernel_rfl) (by kernel_rfl) (by kernel_rfl)
  have tO := as_typeOfE
  have mA := as_methodAssignableTo
  have aE := as_assignableE
  have u1 := noAsE
  have u2 := noUnwrapE
  have u3 := noUnwrapsE
  have f6 := as_valueOf27
  have f7 := as_type27
  have mK := as_methodKind
  have mE := as_methodElem
  have mI := as_methodImplements
  have k27 := as_kind27
  have k25 := as_kind25
  have e27 := as_elem27
  have i25 := as_implements25
  have n8 := as_isNil27 ⟨w.heap.size, 0, none⟩ ⟨tb, 0, none⟩ ((w.alloc (.cells #[.pointer (some ⟨tb, 0, none⟩)] 61)).alloc (.cells #[.pointer (some ⟨10, 61, none⟩), .pointer (some ⟨w.heap.size, 0, none⟩), .int .u64 150] 90)) (by simp)
  have hlt : 3 < w.heap.size := cell_lt hg
  have hg2 : ((w.alloc (.cells #[.pointer (some ⟨tb, 0, none⟩)] 61)).alloc (.cells #[.pointer (some ⟨10, 61, none⟩), .pointer (some ⟨w.heap.size, 0, none⟩), .int .u64 150] 90)).cell? ⟨3, 0, none⟩ = some (.iface 117 (.agg #[.pointer (some ⟨10, 44, none⟩)])) := by
    rw [World.cell?_alloc_lt _ _ ⟨3, 0, none⟩ (by simp; omega), World.cell?_alloc_lt _ _ ⟨3, 0, none⟩ hlt]; exact hg
  have bel := Lib.hid ((((Below.refl _ w).alloc (Nat.le_refl _) (.cells #[.pointer (some ⟨tb, 0, none⟩)] 61)).alloc (by simp) (.cells #[.pointer (some ⟨10, 61, none⟩), .pointer (some ⟨w.heap.size, 0, none⟩), .int .u64 150] 90)))
  go_enter Tryz.func25, Tryz.ntmps25
  go_wp2
  refine wp_loop_rounds 1 ?_
  rw [rounds_succ]
  go_wp2
  go_ret
  first | exact ⟨rfl, bel.out⟩ | exact ⟨rfl, bel.out.alloc (by simp; omega) _⟩
/-- What errors.As leaves. -/
theorem as_below (tb : Nat) (c ev : Value) (w : World) (o1 o2 o3 o4 : Obj) (cs : Array Value) (ht : tb ≤ w.heap.size) (h0 : w.heap[tb]? = some (.cells cs 59 (0, 0))) :
    Below tb w (((((w.alloc o1).alloc o2).alloc o3).alloc o4).setRow tb #[c, ev]) ∧ (((((w.alloc o1).alloc o2).alloc o3).alloc o4).setRow tb #[c, ev]).cell? ⟨tb, 0, none⟩ = some c := by
  have hb0 := ((((Below.refl _ w).alloc (Nat.le_refl _) o1).alloc (by simp) o2).alloc (by simp; omega) o3).alloc (by simp; omega) o4
  have h1 : ((((w.alloc o1).alloc o2).alloc o3).alloc o4).heap[tb]? = some (.cells cs 59 (0, 0)) := (hb0.block _ (Array.getElem?_eq_some_iff.1 h0).1).trans h0
  refine ⟨(hb0.mono ht).grown (grownBy_setRow _ _ _) (by simp; omega) (fun k hk => by cases hk; exact Nat.le_refl _), ?_⟩
  have h2 := setRow_heap _ _ _ #[c, ev] _ _ h1
  simp [World.cell?, h2]
set_option maxHeartbeats 1000000 in
theorem told_nil (w : World) : Calls Tryz.prog 14 #[.nilIface] w fun r w' => r = .returned (.int .i64 0) ∧ Below w.heap.size w w' := by
  go_enter Tryz.func14, Tryz.ntmps14
  go_wp2_with fail
  go_ret
  exact ⟨rfl, below_new _ _⟩
set_option maxRecDepth 100000 in
set_option maxHeartbeats 2000000 in
theorem told_sent (a : Addr) (w : World) (h : WJ a w) : Calls Tryz.prog 14 #[errS a] w fun r w' => r = .returned (.int .i64 150) ∧ Below w.heap.size w w' := by
  have HW := Lib.hid h
  have hb := Lib.hid (fun o => below_new w o)
  clear h
  go_enter Tryz.func14, Tryz.ntmps14
  go_wp2_with fail
  refine (as_miss a _ _ ((HW.out.keep (hb.out _)).et)).mono ?_
  rintro e w2 ⟨rfl, hb2⟩
  have HB := Lib.hid ((hb.out _).trans (hb2.mono (by simp)))
  clear hb2
  go_wp2_with fail
  go_ret
  exact ⟨rfl, HB.out⟩
set_option maxRecDepth 100000 in
set_option maxHeartbeats 2000000 in
theorem told_err (a : Addr) (c : Int) (w : World) (h : WJ a w) : Calls Tryz.prog 14 #[errV a c] w fun r w' => r = .returned (.int .i64 c) ∧ Below w.heap.size w w' := by
  have HW := Lib.hid h
  clear h
  unfold errV
  go_enter Tryz.func14, Tryz.ntmps14
  go_wp2_with fail
  have h2 : (w.alloc (.cells #[.int .i64 0, .nilIface] 59)).heap[w.heap.size]? = some (.cells #[.int .i64 0, .nilIface] 59 (0, 0)) := heap_alloc_new w _
  refine (as_hit c (errS a) rfl w.heap.size (.int .i64 0) .nilIface _ ((HW.out.keep (below_new w _)).et) h2).mono ?_
  rintro r w' ⟨rfl, hw⟩
  obtain ⟨hb4, hc⟩ := as_below w.heap.size (.int .i64 c) (errS a) (w.alloc (.cells #[.int .i64 0, .nilIface] 59)) (.cells #[.pointer (some ⟨w.heap.size, 0, none⟩)] 61) (.cells #[.pointer (some ⟨10, 61, none⟩), .pointer (some ⟨(w.alloc (.cells #[.int .i64 0, .nilIface] 59)).heap.size, 0, none⟩), .int .u64 150] 90) (.cells #[.pointer (some ⟨10, 61, none⟩), .pointer (some ⟨(w.alloc (.cells #[.int .i64 0, .nilIface] 59)).heap.size, 0, none⟩), .int .u64 150] 90) (.cells #[.int .i64 c, errS a] 59) _ (by simp) h2
  rw [← hw] at hb4 hc
  have HB4 := Lib.hid ((below_new w _).trans hb4)
  clear hw hb4 h2
  go_wp2_with fail
  go_ret
  exact ⟨rfl, HB4.out⟩
end Go.Proofs.YtamclieppbnpiabGreatDoor
