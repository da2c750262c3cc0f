/-
  What an error tells: errors.Is, errors.As by their contracts, at the errors of layer 8.
-/
import Derived.Test.YtebejlnegalokaaGreatDoorProg
import Derived.Test.YtebejlnegalokaaGreatDoorReg
import Derived.WalkKit
import Derived.WalkSpells
import Derived.WalkLawsBesides
import Derived.Lib.Hide
import Derived.Lib.MinMax
import Derived.Deep.QuietTactic
import Derived.BigQuiet
import Derived.OwnWalk
import Derived.Deep.AppendLies
import Derived.KernelRfl
import Derived.Test.YtebejlnegalokaaGreatDoorGzM2
import Derived.Test.YtebejlnegalokaaGreatDoorPw1
set_option linter.unusedSimpArgs false
set_option linter.unusedVariables false
namespace Go.Proofs.YtebejlnegalokaaGreatDoor
open Go.RowKit Go.Extern.Stop Go.Stop Go.Extern
theorem as_valueOf27 (t : Addr) (w : World) : (ReflectliteValue.unpack (.iface 109 (.pointer (some t)))).run Tryz.prog w
    = .ok (.agg #[.pointer (some ⟨8, 109, none⟩), .pointer (some ⟨w.heap.size, 0, none⟩), .int .u64 150]) (w.alloc (.cells #[.pointer (some t)] 109)) := by kernel_rfl
theorem as_type27 (a : Addr) (w : World) : (ReflectliteValue.methodAny (ReflectliteValue.valueError "reflectlite.Value.Type" 0) (fun t _ _ _ => ReflectliteType.toType t) #[.agg #[.pointer (some ⟨8, 109, none⟩), .pointer (some a), .int .u64 150]]).run Tryz.prog w
    = .ok (.iface 163 (.agg #[.pointer (some ⟨8, 109, none⟩)])) w := by kernel_rfl
theorem as_methodKind (h : Value) (w : World) : (Go.method 347 163 (.agg #[h]) "Kind").run Tryz.prog w = .ok (156, h) w := by kernel_rfl
theorem as_kind27 (w : World) : ((ReflectliteType.abiMethod fun t => (fun a : Nat => Value.int IntKind.u8 (a : Int)) <$> Rtype.kind t) #[.pointer (some ⟨8, 109, none⟩)]).run Tryz.prog w = .ok (.int .u8 22) w := by kernel_rfl
theorem as_kind25 (w : World) : ((ReflectliteType.abiMethod fun t => (fun a : Nat => Value.int IntKind.u8 (a : Int)) <$> Rtype.kind t) #[.pointer (some ⟨8, 105, none⟩)]).run Tryz.prog w = .ok (.int .u8 25) w := by kernel_rfl
theorem rlm (z : Sem Value) (f : TypeId → Addr → Nat → Nat → Sem Value) (v : Value) :
    ReflectliteValue.method z f #[v] = (do match ← ReflectliteValue.parts v with | none => z | some (t, a, fl) => f t a fl (fl % 32)) := rfl
theorem as_parts27 (a : Addr) (w : World) : (ReflectliteValue.parts (.agg #[.pointer (some ⟨8, 109, none⟩), .pointer (some a), .int .u64 150])).run Tryz.prog w = .ok (some (109, a, 150)) w := by kernel_rfl
/-- (Value).IsNil at the Value of a **p.E that is not nil. -/
theorem as_isNil27 (a p : Addr) (W : World) (ha : W.cell? a = some (.pointer (some p))) :
    (ReflectliteValue.method (ReflectliteValue.valueError "reflectlite.Value.IsNil" 0) ReflectliteValue.isNil #[.agg #[.pointer (some ⟨8, 109, none⟩), .pointer (some a), .int .u64 150]]).run Tryz.prog W = .ok (.bool false) W := by
  rw [rlm]
  simp only [Sem.run_bind, as_parts27, Result.andThen]
  simp [ReflectliteValue.isNil, loadVar, isAgg, underlying, Tryz.underlying109, ha, Result.andThen]
theorem as_methodElem (h : Value) (w : World) : (Go.method 347 163 (.agg #[h]) "Elem").run Tryz.prog w = .ok (168, .agg #[h]) w := by kernel_rfl
theorem as_methodImplements (h : Value) (w : World) : (Go.method 347 163 (.agg #[h]) "Implements").run Tryz.prog w = .ok (169, .agg #[h]) w := by kernel_rfl
theorem as_methodAssignableTo (h : Value) (w : World) : (Go.method 347 163 (.agg #[h]) "AssignableTo").run Tryz.prog w = .ok (166, .agg #[h]) w := by kernel_rfl
theorem as_elem27 (w : World) : (ReflectliteType.method ReflectliteType.elem #[.agg #[.pointer (some ⟨8, 109, none⟩)]]).run Tryz.prog w = .ok (.iface 163 (.agg #[.pointer (some ⟨8, 105, none⟩)])) w := by kernel_rfl
theorem as_implements25 (w : World) : (ReflectliteType.relation "Implements" ReflectliteType.implements_ #[.agg #[.pointer (some ⟨8, 105, none⟩)], .iface 163 (.agg #[.pointer (some ⟨8, 67, none⟩)])]).run Tryz.prog w = .ok (.bool true) w := by kernel_rfl
theorem as_typeOf25 (v : Value) (w : World) : (ReflectliteType.typeOf #[.iface 105 v]).run Tryz.prog w = .ok (.iface 163 (.agg #[.pointer (some ⟨8, 105, none⟩)])) w := by kernel_rfl
theorem as_assignable25 (w : World) : (ReflectliteType.relation "AssignableTo" ReflectliteType.assignableTo #[.agg #[.pointer (some ⟨8, 105, none⟩)], .iface 163 (.agg #[.pointer (some ⟨8, 105, none⟩)])]).run Tryz.prog w = .ok (.bool true) w := by kernel_rfl
theorem as_valueOf25 (c : Int) (e : Value) (w : World) : (ReflectliteValue.unpack (.iface 105 (.agg #[.int .i64 c, e]))).run Tryz.prog w
    = .ok (.agg #[.pointer (some ⟨8, 105, none⟩), .pointer (some ⟨w.heap.size, 0, none⟩), .int .u64 153]) (w.alloc (.cells #[.int .i64 c, e] 105)) := by kernel_rfl
theorem as_elemOf27 (w : World) : (Rtype.elem? 109).run Tryz.prog w = .ok (some 105) w := by kernel_rfl
theorem as_mk25 (p : Addr) (w : World) : (ReflectliteValue.mk 105 p ReflectliteValue.flagAddr).run Tryz.prog w = .ok (.agg #[.pointer (some ⟨8, 105, none⟩), .pointer (some p), .int .u64 409]) w := by kernel_rfl
/-- (Value).Elem at the Value of a **p.E that is not nil: the Value of the *p.E variable that it points to, addressable. -/
theorem as_elemV27 (a p : Addr) (W : World) (ha : W.cell? a = some (.pointer (some p))) :
    (ReflectliteValue.method (ReflectliteValue.valueError "reflectlite.Value.Elem" 0) ReflectliteValue.elem #[.agg #[.pointer (some ⟨8, 109, none⟩), .pointer (some a), .int .u64 150]]).run Tryz.prog W
      = .ok (.agg #[.pointer (some ⟨8, 105, none⟩), .pointer (some p), .int .u64 409]) W := by
  rw [rlm]
  simp only [Sem.run_bind, as_parts27, Result.andThen]
  simp [ReflectliteValue.elem, loadVar, isAgg, underlying, Tryz.underlying109, ha, Result.andThen, as_elemOf27, as_mk25]
theorem rls (v x : Value) : ReflectliteValue.set #[v, x] = (do
    let (some (dst, a, fl), some (src, b, _)) := (← ReflectliteValue.parts v, ← ReflectliteValue.parts x)
      | unsupported (.noEntry "extern/(internal/reflectlite.Value).Set.zeroValue")
    if fl / ReflectliteValue.flagAddr % 2 == 0 then unsupported (.noEntry "extern/(internal/reflectlite.Value).Set.unaddressable")
    let val ← loadVar src b
    if ← Rtype.directlyAssignable dst src then storeVar dst a val
    else if ← Rtype.implements dst src then
      if (← Rtype.kind src) == 20 then
        match val with
        | .nilIface => unsupported (.noEntry "extern/reflectlite: a nil value of one interface type handed on as a value of another")
        | _ => storeVar dst a val
      else storeVar dst a (.iface src val)
    else panicString ("reflectlite.Set: value of type " ++ (← Rtype.spelt src) ++ " is not assignable to type " ++ (← Rtype.spelt dst))
    pure (.tuple #[])) := rfl
theorem as_parts25a (a : Addr) (w : World) : (ReflectliteValue.parts (.agg #[.pointer (some ⟨8, 105, none⟩), .pointer (some a), .int .u64 409])).run Tryz.prog w = .ok (some (105, a, 409)) w := by kernel_rfl
theorem as_parts25 (a : Addr) (w : World) : (ReflectliteValue.parts (.agg #[.pointer (some ⟨8, 105, none⟩), .pointer (some a), .int .u64 153])).run Tryz.prog w = .ok (some (105, a, 153)) w := by kernel_rfl
theorem as_direct25 (w : World) : (Rtype.directlyAssignable 105 105).run Tryz.prog w = .ok true w := by kernel_rfl
theorem as_size25 (w : World) : (sizeOf 105).run Tryz.prog w = .ok 2 w := by kernel_rfl
/-- (Value).Set: the variable at block tb gets what the Value's own variable 'b' holds. -/
theorem as_set25 (tb : Nat) (b : Addr) (c : Int) (e : Value) (he : e.oneCell' = true) (o0 o1 : Value) (W : World) (h0 : W.cell? (b.add 0) = some (.int .i64 c)) (h1 : W.cell? (b.add 1) = some e)
    (ht : W.heap[tb]? = some (.cells #[o0, o1] 105 (0, 0))) :
    (ReflectliteValue.set #[.agg #[.pointer (some ⟨8, 105, none⟩), .pointer (some ⟨tb, 0, none⟩), .int .u64 409], .agg #[.pointer (some ⟨8, 105, none⟩), .pointer (some b), .int .u64 153]]).run Tryz.prog W
      = .ok (.tuple #[]) (W.setRow tb #[.int .i64 c, e]) := by
  have el : (loadCells b 2).run Tryz.prog W = .ok #[.int .i64 c, e] W := by
    have h := run_loadCells_list (P := Tryz.prog) W b [.int .i64 c, e] (fun j u hj => by
      match j, hj with
      | 0, hj => simp at hj; subst hj; exact h0
      | 1, hj => simp at hj; subst hj; exact h1
      | j + 2, hj => simp at hj)
    simpa using h
  have es := run_storeCells_at Tryz.prog tb 0 105 [.int .i64 c, e] 0 #[o0, o1] W ht (by simp) (by intro v hv; simp at hv; rcases hv with rfl | rfl; rfl; exact he)
  rw [rls]
  simp only [Sem.run_bind, as_parts25a, as_parts25, Result.andThen]
  simp [ReflectliteValue.flagAddr, loadVar, isAgg, underlying, Tryz.underlying105, Result.andThen, as_direct25, el, as_size25, storeVar, Value.cells, es]
set_option maxRecDepth 100000 in
set_option maxHeartbeats 4000000 in
theorem as_hit (c : Int) (e : Value) (he : e.oneCell' = true) (tb : Nat) (o0 o1 : Value) (w : World) (hg : w.cell? ⟨2, 0, none⟩ = some (.iface 163 (.agg #[.pointer (some ⟨8, 67, none⟩)]))) (ht0 : w.heap[tb]? = some (.cells #[o0, o1] 105 (0, 0))) :
    Calls Tryz.prog 71 #[.iface 105 (.agg #[.int .i64 c, e]), .iface 109 (.pointer (some ⟨tb, 0, none⟩))] w fun ev w' => ev = .returned (.bool true) ∧ w' = ((((w.alloc (.cells #[.pointer (some ⟨tb, 0, none⟩)] 109)).alloc (.cells #[.pointer (some ⟨8, 109, none⟩), .pointer (some ⟨w.heap.size, 0, none⟩), .int .u64 150] 148)).alloc (.cells #[.pointer (some ⟨8, 109, none⟩), .pointer (some ⟨w.heap.size, 0, none⟩), .int .u64 150] 148)).alloc (.cells #[.int .i64 c, e] 105)).setRow tb #[.int .i64 c, e] := by
  have h6 := @run_callFunc_extern Tryz.prog 104 _ (fun args => ReflectliteValue.unpack (args.getD 0 (.tuple #[]))) Tryz.func104 (by kernel_rfl) (by kernel_rfl) (by kernel_rfl) (by kernel_rfl)
  have h7 := @run_callFunc_extern Tryz.prog 105 _ (ReflectliteValue.methodAny (ReflectliteValue.valueError "reflectlite.Value.Type" 0) (fun t _ _ _ => ReflectliteType.toType t)) Tryz.func105 (by kernel_rfl) (by kernel_rfl) (by kernel_rfl) (by kernel_rfl)
  have h8 := @run_callFunc_extern Tryz.prog 106 _ (ReflectliteValue.method (ReflectliteValue.valueError "reflectlite.Value.IsNil" 0) ReflectliteValue.isNil) Tryz.func106 (by kernel_rfl) (by kernel_rfl) (by kernel_rfl) (by kernel_rfl)
  have h27 := @run_callFunc_extern Tryz.prog 156 _ (ReflectliteType.abiMethod fun t => do pure (.int .u8 (← Rtype.kind t))) Tryz.func156 (by kernel_rfl) (by kernel_rfl) (by kernel_rfl) (by kernel_rfl)
  have h37 := @run_callFunc_extern Tryz.prog 168 _ (ReflectliteType.method ReflectliteType.elem) Tryz.func168 (by kernel_rfl) (by kernel_rfl) (by kernel_rfl) (by kernel_rfl)
  have h38 := @run_callFunc_extern Tryz.prog 169 _ (ReflectliteType.relation "Implements" ReflectliteType.implements_) Tryz.func169 (by kernel_rfl) (by kernel_rfl) (by kernel_rfl) (by kernel_rfl)
  have h10 := @run_callFunc_extern Tryz.prog 83 _ ReflectliteType.typeOf Tryz.func83 (by kernel_rfl) (by kernel_rfl) (by kernel_rfl) (by kernel_rfl)
  have h35 := @run_callFunc_extern Tryz.prog 166 _ (ReflectliteType.relation "AssignableTo" ReflectliteType.assignableTo) Tryz.func166 (by kernel_rfl) (by kernel_rfl) (by kernel_rfl) (by kernel_rfl)
  have h11 := @run_callFunc_extern Tryz.prog 121 _ (ReflectliteValue.method (ReflectliteValue.valueError "reflectlite.Value.Elem" 0) ReflectliteValue.elem) Tryz.func121 (by kernel_rfl) (by kernel_rfl) (by kernel_rfl) (by kernel_rfl)
  have h12 := @run_callFunc_extern Tryz.prog 122 _ ReflectliteValue.set Tryz.func122 (by kernel_rfl) (by kernel_rfl) (by kernel_rfl) (by kernel_rfl)
  have tO := as_typeOf25
  have mA := as_methodAssignableTo
  have a25 := as_assignable25
  have v25 := as_valueOf25
  have f6 := as_valueOf27
  have f7 := as_type27
  have mK := as_methodKind
  have mE := as_methodElem
  have mI := as_methodImplements
  have k27 := as_kind27
  have k25 := as_kind25
  have e27 := as_elem27
  have i25 := as_implements25
  have n8 := as_isNil27 ⟨w.heap.size, 0, none⟩ ⟨tb, 0, none⟩ ((w.alloc (.cells #[.pointer (some ⟨tb, 0, none⟩)] 109)).alloc (.cells #[.pointer (some ⟨8, 109, none⟩), .pointer (some ⟨w.heap.size, 0, none⟩), .int .u64 150] 148)) (by simp)
  have hlt : 2 < w.heap.size := cell_lt hg
  have hg2 : ((w.alloc (.cells #[.pointer (some ⟨tb, 0, none⟩)] 109)).alloc (.cells #[.pointer (some ⟨8, 109, none⟩), .pointer (some ⟨w.heap.size, 0, none⟩), .int .u64 150] 148)).cell? ⟨2, 0, none⟩ = some (.iface 163 (.agg #[.pointer (some ⟨8, 67, none⟩)])) := by
    rw [World.cell?_alloc_lt _ _ ⟨2, 0, none⟩ (by simp; omega), World.cell?_alloc_lt _ _ ⟨2, 0, none⟩ hlt]; exact hg
  have htl : tb < w.heap.size := (Array.getElem?_eq_some_iff.1 ht0).1
  have el := as_elemV27 ⟨w.heap.size, 0, none⟩ ⟨tb, 0, none⟩ (((w.alloc (.cells #[.pointer (some ⟨tb, 0, none⟩)] 109)).alloc (.cells #[.pointer (some ⟨8, 109, none⟩), .pointer (some ⟨w.heap.size, 0, none⟩), .int .u64 150] 148)).alloc (.cells #[.pointer (some ⟨8, 109, none⟩), .pointer (some ⟨w.heap.size, 0, none⟩), .int .u64 150] 148)) (by rw [World.cell?_alloc_lt _ _ ⟨w.heap.size, 0, none⟩ (by simp; omega)]; simp)
  have bel : Below w.heap.size w ((((w.alloc (.cells #[.pointer (some ⟨tb, 0, none⟩)] 109)).alloc (.cells #[.pointer (some ⟨8, 109, none⟩), .pointer (some ⟨w.heap.size, 0, none⟩), .int .u64 150] 148)).alloc (.cells #[.pointer (some ⟨8, 109, none⟩), .pointer (some ⟨w.heap.size, 0, none⟩), .int .u64 150] 148)).alloc (.cells #[.int .i64 c, e] 105)) := ((((Below.refl _ w).alloc (Nat.le_refl _) _).alloc (by simp) _).alloc (by simp; omega) _).alloc (by simp; omega) _
  have nw : ∀ j v, (#[.int .i64 c, e] : Array Value)[j]? = some v → ((((w.alloc (.cells #[.pointer (some ⟨tb, 0, none⟩)] 109)).alloc (.cells #[.pointer (some ⟨8, 109, none⟩), .pointer (some ⟨w.heap.size, 0, none⟩), .int .u64 150] 148)).alloc (.cells #[.pointer (some ⟨8, 109, none⟩), .pointer (some ⟨w.heap.size, 0, none⟩), .int .u64 150] 148)).alloc (.cells #[.int .i64 c, e] 105)).cell? ⟨w.heap.size + 1 + 1 + 1, j, none⟩ = some v := fun j v hj => by rw [World.cell?_alloc_at _ _ _ _ (by simp)]; exact hj
  have st := as_set25 tb ⟨w.heap.size + 1 + 1 + 1, 0, none⟩ c e he o0 o1 ((((w.alloc (.cells #[.pointer (some ⟨tb, 0, none⟩)] 109)).alloc (.cells #[.pointer (some ⟨8, 109, none⟩), .pointer (some ⟨w.heap.size, 0, none⟩), .int .u64 150] 148)).alloc (.cells #[.pointer (some ⟨8, 109, none⟩), .pointer (some ⟨w.heap.size, 0, none⟩), .int .u64 150] 148)).alloc (.cells #[.int .i64 c, e] 105))
    (nw 0 _ rfl) (nw 1 _ rfl) ((bel.block tb htl).trans ht0)
  clear bel nw
  go_enter Tryz.func71, Tryz.ntmps71
  go_wp2
  refine wp_loop_rounds 1 ?_
  rw [rounds_succ]
  go_wp2
  go_ret
  exact ⟨rfl, rfl⟩
theorem isTypeOf (v : Value) (w : World) : (Extern.ReflectliteType.typeOf #[.iface 216 v]).run Tryz.prog w = .ok (.iface 163 (.agg #[.pointer (some ⟨8, 216, none⟩)])) w := by kernel_rfl
theorem isComparable (w : World) : (callFunc 167 #[.agg #[.pointer (some ⟨8, 216, none⟩)]]).run Tryz.prog w = .ok (.value (.bool true)) w := by kernel_rfl
theorem isMethodComparable (v : Value) (w : World) : (Go.method 347 163 v "Comparable").run Tryz.prog w = .ok (167, v) w := by kernel_rfl
theorem isComp : (Tryz.prog.info? 216).map (·.comparable) = some true := by kernel_rfl
theorem isSize : (Tryz.prog.info? 235).map (·.size) = some 1 := by kernel_rfl
set_option maxRecDepth 100000 in
set_option maxHeartbeats 1000000 in
/-- errors.Is(x, x), x a pointer to an errors.errorString. -/
theorem is_same (a : Addr) (w : World) :
    Calls Tryz.prog 59 #[.iface 216 (.pointer (some a)), .iface 216 (.pointer (some a))] w fun e w' => e = .returned (.bool true) ∧ w = w' := by
  obtain ⟨i, hi, hcmp⟩ := Option.map_eq_some_iff.1 isComp
  obtain ⟨j, hj, hjs⟩ := Option.map_eq_some_iff.1 isSize
  have h8 := @run_callFunc_extern Tryz.prog 83 _ Extern.ReflectliteType.typeOf Tryz.func83 (by kernel_rfl) (by kernel_rfl) (by kernel_rfl) (by kernel_rfl)
  have tT := isTypeOf
  have cT := isComparable
  have mR := isMethodComparable
  have heq := run_eql_iface_ptr_same (P := Tryz.prog) w a Tryz.underlying67 Tryz.underlying216 hi hcmp hj
  go_enter Tryz.func59, Tryz.ntmps59
  go_wp2
  refine wp_loop_rounds 1 ?_
  rw [rounds_succ]
  go_wp2
  go_ret
  exact ⟨rfl, rfl⟩
theorem noIsW (v : Value) (xT : TypeId) (w : World) : (Instr.typeAssert (.iface 105 v) xT 165 true).run Tryz.prog w = .ok (.tuple #[.nilIface, .bool false]) w := run_typeAssert_lacksB Tryz.underlying165 (by kernel_rfl) (by kernel_rfl) v xT w
theorem isUnwrapW (v : Value) (xT : TypeId) (w : World) : (Instr.typeAssert (.iface 105 v) xT 168 true).run Tryz.prog w = .ok (.tuple #[.iface 105 v, .bool true]) w := by kernel_rfl
theorem methodUnwrapW (v : Value) (w : World) : (Go.method 347 105 v "Unwrap").run Tryz.prog w = .ok (160, v) w := by kernel_rfl
theorem unwrap_any (c e : Value) (w : World) :
    Calls Tryz.prog 160 #[.agg #[c, e]] w fun r w' => r = .returned e ∧ Below w.heap.size w w' := by
  go_enter Tryz.func160, Tryz.ntmps160
  go_wp2_with fail
  go_ret
  exact ⟨rfl, below_new _ _⟩
set_option maxRecDepth 100000 in
set_option maxHeartbeats 1000000 in
/-- errors.Is(x, y), x a wrong one with nothing beneath. -/
theorem is_wrong (c : Value) (b : Addr) (w : World) :
    Calls Tryz.prog 59 #[.iface 105 (.agg #[c, .nilIface]), .iface 216 (.pointer (some b))] w fun e w' => e = .returned (.bool false) ∧ Below w.heap.size w w' := by
  have h8 := @run_callFunc_extern Tryz.prog 83 _ Extern.ReflectliteType.typeOf Tryz.func83 (by kernel_rfl) (by kernel_rfl) (by kernel_rfl) (by kernel_rfl)
  have tT := isTypeOf
  have cT := isComparable
  have mR := isMethodComparable
  have nE := noIsW
  have uE := isUnwrapW
  have mU := methodUnwrapW
  have heq := run_eql_iface_types (P := Tryz.prog) 105 216 (.agg #[c, .nilIface]) (.pointer (some b)) Tryz.underlying67 (by decide) w
  go_enter Tryz.func59, Tryz.ntmps59
  go_wp2
  refine wp_loop_rounds 1 ?_
  rw [rounds_succ]
  go_wp2_with (go_at_call 160; refine (unwrap_any _ _ _).mono ?_; rintro e w1 ⟨rfl, hb⟩)
  go_ret
  exact ⟨rfl, hb⟩
def errSyntaxAt (a : Addr) (w : World) : Prop := w.cell? ⟨1, 0, none⟩ = some (.iface 216 (.pointer (some a)))
set_option maxHeartbeats 1000000 in
theorem told_syn (a : Addr) (w : World) (hg : errSyntaxAt a w) :
    Calls Tryz.prog 51 #[.iface 216 (.pointer (some a))] w fun e w' => e = .returned (.int .i64 80) ∧ Below w.heap.size w w' := by
  unfold errSyntaxAt at hg
  have hgl := cell_lt hg
  simp only at hgl
  go_enter Tryz.func51, Tryz.ntmps51
  go_wp2_with (go_at_call 59; refine (is_same _ _).mono ?_; rintro e w' ⟨rfl, rfl⟩)
  go_ret
  exact ⟨rfl, below_new _ _⟩
/-- What errors.As leaves. -/
theorem as_below (tb : Nat) (c : Value) (w : World) (o1 o2 o3 o4 : Obj) (cs : Array Value) (ht : tb ≤ w.heap.size) (h0 : w.heap[tb]? = some (.cells cs 105 (0, 0))) :
    Below tb w (((((w.alloc o1).alloc o2).alloc o3).alloc o4).setRow tb #[c, .nilIface]) ∧ (((((w.alloc o1).alloc o2).alloc o3).alloc o4).setRow tb #[c, .nilIface]).cell? ⟨tb, 0, none⟩ = some c := by
  have hb0 := ((((Below.refl _ w).alloc (Nat.le_refl _) o1).alloc (by simp) o2).alloc (by simp; omega) o3).alloc (by simp; omega) o4
  have h1 : ((((w.alloc o1).alloc o2).alloc o3).alloc o4).heap[tb]? = some (.cells cs 105 (0, 0)) := (hb0.block _ (Array.getElem?_eq_some_iff.1 h0).1).trans h0
  refine ⟨(hb0.mono ht).grown (grownBy_setRow _ _ _) (by simp; omega) (fun k hk => by cases hk; exact Nat.le_refl _), ?_⟩
  have h2 := setRow_heap _ _ _ #[c, .nilIface] _ _ h1
  simp [World.cell?, h2]
set_option maxRecDepth 100000 in
set_option maxHeartbeats 2000000 in
theorem told_any (c : Int) (b : Addr) (w : World) (hg : w.cell? ⟨2, 0, none⟩ = some (.iface 163 (.agg #[.pointer (some ⟨8, 67, none⟩)]))) (hs : errSyntaxAt b w) :
    Calls Tryz.prog 51 #[.iface 105 (.agg #[.int .i64 c, .nilIface])] w fun r w' => r = .returned (.int .i64 c) ∧ Below w.heap.size w w' := by
  unfold errSyntaxAt at hs
  have hgl := cell_lt hs
  have HG := Lib.hid hg
  simp only at hgl
  clear hg
  go_enter Tryz.func51, Tryz.ntmps51
  go_wp2_with fail
  refine (is_wrong _ _ _).mono ?_
  rintro e w2 ⟨rfl, hb2⟩
  have h2 : w2.heap[w.heap.size]? = some (.cells #[.int .i64 0, .nilIface] 105 (0, 0)) := (hb2.block _ (by simp)).trans (heap_alloc_new w _)
  have hb3 : Below w.heap.size w w2 := (below_new w _).trans (hb2.mono (by simp))
  have H := Lib.hid (as_hit c .nilIface rfl w.heap.size (.int .i64 0) .nilIface w2 ((hb3.cell (cell_lt HG.out)).trans HG.out) h2)
  have hz : w.heap.size ≤ w2.heap.size := hb3.size
  have HB2 := Lib.hid hb3
  have H2 := Lib.hid h2
  have HZ := Lib.hid hz
  clear hb2 h2 hb3 hz
  go_wp2_with fail
  refine H.out.mono ?_
  rintro r w' ⟨rfl, hw⟩
  obtain ⟨hb4, hc⟩ := as_below w.heap.size (.int .i64 c) w2 (.cells #[.pointer (some ⟨w.heap.size, 0, none⟩)] 109) (.cells #[.pointer (some ⟨8, 109, none⟩), .pointer (some ⟨w2.heap.size, 0, none⟩), .int .u64 150] 148) (.cells #[.pointer (some ⟨8, 109, none⟩), .pointer (some ⟨w2.heap.size, 0, none⟩), .int .u64 150] 148) (.cells #[.int .i64 c, .nilIface] 105) _ HZ.out H2.out
  rw [← hw] at hb4 hc
  have HB4 := Lib.hid (HB2.out.trans hb4)
  clear hw hb4
  go_wp2_with fail
  go_ret
  exact ⟨rfl, HB4.out⟩
end Go.Proofs.YtebejlnegalokaaGreatDoor
/-
  Joined trees with an error, brackets, operators cut off: by the program.
-/
namespace Go.Proofs.YtebejlnegalokaaGreatDoor
open Go Go.RowKit Go.Maps
open Gz (Tok HoldsT mildT matchOf codeOf insideRes splitRes HoldsI)
open Nz (Nd rightN joinN HoldsN IntN HoldsTs errNodeAt)

/-! ### Parts of slices -/
theorem drewN_below {B : Nat} {a w : World} (h : Below B a w) (n : Nat) : Below B a (w.drewN n) := ⟨h.os, h.tape, h.output, h.size, h.block⟩
theorem HoldsT.sub {w : World} {A : Option Addr} {l : List Tok} (h : HoldsT w A l) (lo hi m : Nat) (hm : hi ≤ m) : HoldsT w (if m = lo then A else A.map (·.add (lo * 3))) ((l.take hi).drop lo) := by
  intro k x hx
  rw [List.getElem?_drop, List.getElem?_take] at hx
  split at hx
  · rename_i h1
    obtain ⟨b, off, rfl, c1, c2, c3⟩ := h (lo + k) x hx
    rw [if_neg (by omega)]
    have e : off + lo * 3 + k * 3 = off + (lo + k) * 3 := by omega
    refine ⟨b, off + lo * 3, by simp [Addr.add], by rw [e]; exact c1, by rw [e]; exact c2, by rw [e]; exact c3⟩
  · cases hx
theorem HoldsT.from {w : World} {A : Option Addr} {l : List Tok} (h : HoldsT w A l) (lo m : Nat) (hm : l.length ≤ m) : HoldsT w (if m = lo then A else A.map (·.add (lo * 3))) (l.drop lo) := by
  have := HoldsT.sub h lo l.length m hm
  rwa [List.take_length] at this
theorem HoldsT.to {w : World} {A : Option Addr} {l : List Tok} (h : HoldsT w A l) (hi : Nat) : HoldsT w A (l.take hi) := by
  intro k x hx
  rw [List.getElem?_take] at hx
  split at hx
  · exact h k x hx
  · cases hx
/-- Few tokens of small texts. -/
structure OkL (l : List Tok) : Prop where
  len : l.length ≤ 100
  small : ∀ x ∈ l, x.text.size ≤ 1000 ∧ x.glyph.size ≤ 1000
  kinds : ∀ x ∈ l, 3 ≤ x.kind ∧ x.kind ≤ 9
theorem OkL.mild {l : List Tok} (h : OkL l) : mildT l := ⟨by have := h.len; omega, fun k x hx => by
  have := h.small x (List.mem_of_getElem? hx)
  omega⟩
theorem OkL.drop {l : List Tok} (h : OkL l) (n : Nat) : OkL (l.drop n) := ⟨by have := h.len; rw [List.length_drop]; omega, fun x hx => h.small x (List.mem_of_mem_drop hx), fun x hx => h.kinds x (List.mem_of_mem_drop hx)⟩
theorem OkL.take {l : List Tok} (h : OkL l) (n : Nat) : OkL (l.take n) := ⟨by have := h.len; rw [List.length_take]; omega, fun x hx => h.small x (List.mem_of_mem_take hx), fun x hx => h.kinds x (List.mem_of_mem_take hx)⟩

/-! ### Trees -/
/-- A tree that is one, of small texts. -/
def OkT (t : List Nd) : Prop := rightN t = true ∧ ∀ x ∈ t, x.text.size ≤ 1000000
theorem OkT.int {t : List Nd} (h : OkT t) : IntN t := Nz.right_int h.1 h.2
theorem OkT.len {t : List Nd} (h : OkT t) : t.length ≤ 400 := (Nz.rightN_parts h.1).2.1
theorem joinN_ok {kind : Int} {text : ByteArray} {l : List (List Nd)} {out : List Nd} (h : joinN kind text l = some out) (hx : text.size ≤ 1000000) (hl : ∀ t ∈ l, OkT t) : OkT out := by
  obtain ⟨e, h1, h2⟩ := Nz.joinN_eq h
  refine ⟨h2, fun x hm => ?_⟩
  rw [e] at hm
  rcases List.mem_append.1 hm with hm | hm
  · obtain ⟨t, ht, y, hy, q⟩ := Nz.body_mem hm
    rw [q]
    exact (hl t ht).2 y hy
  · obtain rfl := List.mem_singleton.1 hm
    exact hx

/-- The errors' cells. -/
structure WOk (a b : Addr) (w : World) : Prop where
  listed : Gz.Listed w
  node : errNodeAt a w
  syn : errSyntaxAt b w
theorem WOk.below {a b : Addr} {w w' : World} (h : WOk a b w) (hb : Below w.heap.size w w') : WOk a b w' :=
  ⟨h.listed.below hb, Nz.err_below h.node hb, (hb.cell (p := ⟨1, 0, none⟩) (cell_lt h.syn)).trans h.syn⟩

/-- The errors: no syntax, no tree. -/
def errT (e : Bool) : TypeId := if e then 216 else 105
def errX (b : Addr) (e : Bool) : Value := if e then .pointer (some b) else .agg #[.int .i64 70, .nilIface]
/-- What the parser's functions give: a tree of one's own, an error. -/
def GivesP (r : PR) (b : Addr) (e : Ending) (w w' : World) : Prop := Below w.heap.size w w' ∧ (match r with
  | .ok t => ∃ B d L, e = .returned (.tuple #[.slice B t.length d, .nilIface]) ∧ Nz.HasN w' w.heap.size (.slice B t.length d) L ∧ L.map Prod.fst = t ∧ OkT t
  | .error x => e = .returned (.tuple #[.slice none 0 0, .iface (errT x) (errX b x)]))
theorem has_holds {w : World} {base : Nat} {B : Option Addr} {d : Nat} {t : List Nd} {L : List (Nd × Value)} (h : Nz.HasN w base (.slice B t.length d) L) (hm : L.map Prod.fst = t) : HoldsN w B t ∧ t.length ≤ d := by
  obtain ⟨A, c, e, h1, h2⟩ := h.opened hm rfl
  cases e
  exact ⟨h1, h2⟩

set_option maxHeartbeats 2000000 in
theorem join_p (kind : Int) (text : ByteArray) (l : List (List Nd)) (A : Option Addr) (c : Nat) (a b : Addr) (w : World) (hk : (Lit.int .i64 kind).wf = true) (hx : text.size ≤ 1000000) (hl : l.length ≤ 100) (hh : HoldsTs w A l) (ht : ∀ t ∈ l, OkT t) (hw : WOk a b w) :
    Calls Tryz.prog 58 #[.int .i64 kind, .string text, .slice A l.length c] w (GivesP (joinP kind text l) b · w ·) := by
  have H := Lib.hid (Nz.join_any kind text l A c a w hk hx hl hh (fun t h => ⟨by have := (ht t h).len; omega, (ht t h).int⟩) hw.node)
  have HO := Lib.hid (fun out (h : joinN kind text l = some out) => joinN_ok h hx ht)
  unfold joinP GivesP
  unfold Nz.JoinDone at H
  clear hh ht hw hx
  cases hj : joinN kind text l with
  | none =>
    rw [hj] at H
    clear HO hj
    go_enter Tryz.func58, Tryz.ntmps58
    go_wp2_with fail
    refine H.out.mono ?_
    rintro e w' ⟨rfl, hb⟩
    go_wp2_with fail
    go_ret2
    exact ⟨hb, rfl⟩
  | some out =>
    rw [hj] at H
    have HO2 := Lib.hid (HO.out out hj)
    clear HO hj
    go_enter Tryz.func58, Tryz.ntmps58
    go_wp2_with fail
    refine H.out.mono ?_
    rintro e w' ⟨⟨v, L, rfl, hN, hM⟩, hb⟩
    obtain ⟨B, d, rfl, h2, h3⟩ := hN.opened hM rfl
    have HN := Lib.hid hN
    clear hN h2
    go_wp2_with fail
    go_ret2
    exact ⟨hb, B, d, L, rfl, HN.out, hM, HO2.out⟩

set_option maxHeartbeats 2000000 in
theorem inside_any (A : Option Addr) (c : Nat) (l : List Tok) (w : World) (hl : OkL l) (h2 : 2 ≤ l.length) (hc : l.length ≤ c) (hh : HoldsT w A l) :
    Calls Tryz.prog 78 #[.slice A l.length c] w fun e w' => w' = w ∧ ∃ B, e = .returned (.slice B (innerL l).length (innerL l).length) ∧ HoldsT w B (innerL l) := by
  have HS := Lib.hid (HoldsT.sub hh 1 (l.length - 1) (l.length - 1) (Nat.le_refl _))
  have e1 : (l.take (l.length - 1)).drop 1 = innerL l := by unfold innerL; rw [List.drop_take]; congr 1
  have e2 : (innerL l).length = l.length - 1 - 1 := by unfold innerL; rw [List.length_take, List.length_drop]; omega
  rw [e1] at HS
  rw [e2]
  obtain ⟨len, small, kinds⟩ := hl
  obtain ⟨n, hn⟩ : ∃ n, n = l.length - 1 := ⟨_, rfl⟩
  have hn2 : (l.length : Int) - 1 = (n : Int) := by omega
  have k0 : (0 : Int) ≤ (n : Int) := by omega
  have k1 : (n : Int) ≤ (c : Int) := by omega
  have k2 : (1 : Int) ≤ (n : Int) := by omega
  rw [← hn] at HS ⊢
  have HN := Lib.hid hn
  clear hh e1 e2 small kinds hn
  go_enter Tryz.func78, Tryz.ntmps78
  by_cases hn1 : n = 1
  · rw [if_pos hn1] at HS
    go_wp2_with fail
    go_ret
    exact ⟨rfl, A, by subst hn1; rfl, HS.out⟩
  · rw [if_neg hn1] at HS
    have hn3 : ¬ (n : Int) = 1 := by omega
    go_wp2_with fail
    go_ret
    exact ⟨rfl, _, rfl, HS.out⟩

theorem cutGo_le (l : List Tok) : ∀ n, cutGo l n ≤ n
  | 0 => Nat.le_refl _
  | 1 => Nat.le_refl _
  | n + 2 => by
    unfold cutGo
    split
    · exact Nat.le_trans (cutGo_le l (n + 1)) (by omega)
    · exact Nat.le_refl _
theorem cutGo_pos (l : List Tok) : ∀ n, 1 ≤ n → 1 ≤ cutGo l n
  | 0, h => h
  | 1, h => h
  | n + 2, _ => by
    unfold cutGo
    split
    · exact cutGo_pos l (n + 1) (by omega)
    · omega
theorem cutN_le (l : List Tok) : cutN l ≤ l.length := cutGo_le l _
theorem cutN_pos {l : List Tok} (h : 1 ≤ l.length) : 1 ≤ cutN l := cutGo_pos l _ h
theorem cutGo_op {l : List Tok} {n : Nat} {x : Tok} (h : 1 ≤ n) (hx : l[n]? = some x) (hk : x.kind = 7) : cutGo l (n + 1) = cutGo l n := by
  obtain ⟨m, rfl⟩ : ∃ m, n = m + 1 := ⟨n - 1, by omega⟩
  conv => lhs; unfold cutGo
  rw [hx]
  simp [hk]
theorem cutGo_stop {l : List Tok} {n : Nat} {x : Tok} (hx : l[n]? = some x) (hk : x.kind ≠ 7) : cutGo l (n + 1) = n + 1 := by
  cases n with
  | zero => rfl
  | succ m =>
    unfold cutGo
    rw [hx]
    simp [hk]

set_option maxHeartbeats 2000000 in
theorem cut_any (A : Option Addr) (c : Nat) (l : List Tok) (w : World) (hl : OkL l) (hc : l.length ≤ c) (hh : HoldsT w A l) :
    Calls Tryz.prog 56 #[.slice A l.length c] w fun e w' => Below w.heap.size w w' ∧ ∃ B d, e = .returned (.tuple #[.slice A (cutN l) (cutN l), .slice B (l.length - cutN l) d]) ∧ l.length - cutN l ≤ d ∧ HoldsT w B (l.drop (cutN l)) := by
  obtain ⟨R, hR⟩ : ∃ R, R = cutN l := ⟨_, rfl⟩
  have HS := Lib.hid (HoldsT.from hh R c hc)
  have HR1 := Lib.hid (cutN_le l)
  rw [← hR] at HR1 ⊢
  unfold cutN at hR
  have HR := Lib.hid hR
  have HH := Lib.hid hh
  obtain ⟨len, small, kinds⟩ := hl
  clear hh hR small kinds
  go_enter Tryz.func56, Tryz.ntmps56
  go_wp2_with fail
  go_loopw [4] (fun s wr => ∃ (j : Nat), s = .int .i64 j ∧ j ≤ l.length ∧ Hid (R = cutGo l j) ∧ wr = w) (fun s _ => (intOf s).toNat)
  case atStart => exact ⟨l.length, rfl, Nat.le_refl _, HR, by first | trivial | rfl⟩
  case round =>
    obtain ⟨j, rfl, hj, HJ, rfl⟩ := hrel
    by_cases h1 : 1 < j
    · obtain ⟨m, rfl⟩ : ∃ m, j = m + 1 := ⟨j - 1, by omega⟩
      have g := List.getElem?_eq_getElem (l := l) (i := m) (by omega)
      obtain ⟨b, off, rfl, c0, c1, c2⟩ := HH.out m _ g
      have e1 : ((m + 1 : Nat) : Int) - 1 = (m : Int) := by omega
      have k0 : (0 : Int) ≤ (m : Int) := by omega
      have k1 : (m : Int) < (l.length : Int) := by omega
      have k2 : (1 : Int) < ((m + 1 : Nat) : Int) := by omega
      by_cases h7 : (l[m]'(by omega)).kind = 7
      · have HJ2 := Lib.hid (HJ.out.trans (cutGo_op (by omega) g h7))
        rw [h7] at c0
        clear h7 g c1 c2 HJ
        go_wp2_with fail
        go_roundw
        case rel => exact ⟨m, rfl, by omega, HJ2, by first | trivial | rfl⟩
        case measure => simp [intOf]; first | done | omega
      · have HJ2 := Lib.hid (HJ.out.trans (cutGo_stop g h7))
        generalize (l[m]'(by omega)) = x at *
        clear g c1 c2 HJ
        have hjR : R = m + 1 := HJ2.out
        clear HJ2
        subst hjR
        have q7 : (x.kind == 7) = false := by simp [h7]
        by_cases hcm : c = m + 1
        · rw [if_pos hcm] at HS
          go_wp2_with fail
          go_quiet (fail)
          go_wp2_with fail
          go_ret2
          exact ⟨drewN_below (Below.refl _ _) _, _, _, rfl, by omega, HS.out⟩
        · rw [if_neg hcm] at HS
          go_wp2_with fail
          go_quiet (fail)
          go_wp2_with fail
          go_ret2
          exact ⟨drewN_below (Below.refl _ _) _, _, _, rfl, by omega, HS.out⟩
    · have hjR : R = j := by
        have := HJ.out
        match j, h1, this with
        | 0, _, h => exact h
        | 1, _, h => exact h
        | n + 2, h1, _ => omega
      clear HJ
      subst hjR
      have k2 : ¬ (1 : Int) < (R : Int) := by omega
      have k3 : (0 : Int) ≤ (R : Int) := by omega
      have k4 : (R : Int) ≤ (c : Int) := by omega
      have k5 : (R : Int) ≤ (l.length : Int) := by omega
      by_cases hcm : c = R
      · rw [if_pos hcm] at HS
        go_wp2_with fail
        go_quiet (fail)
        go_wp2_with fail
        go_ret2
        exact ⟨drewN_below (Below.refl _ _) _, _, _, rfl, by omega, HS.out⟩
      · rw [if_neg hcm] at HS
        go_wp2_with fail
        go_quiet (fail)
        go_wp2_with fail
        go_ret2
        exact ⟨drewN_below (Below.refl _ _) _, _, _, rfl, by omega, HS.out⟩

set_option maxHeartbeats 2000000 in
theorem isGroup_any (A : Option Addr) (c : Nat) (l : List Tok) (g : ByteArray) (w : World) (hl : OkL l) (hc : l.length ≤ c) (hh : HoldsT w A l) (hg : Gz.Listed w) :
    Calls Tryz.prog 80 #[.slice A l.length c, .string g] w fun e w' => e = .returned (.bool (isGrp l g)) ∧ Below w.heap.size w w' := by
  by_cases h2 : 2 ≤ l.length
  · have gx := List.getElem?_eq_getElem (l := l) (i := 0) (by omega)
    have HI := Lib.hid (fun W (h : HoldsT W A l) (hw : Gz.Listed W) => Gz.ginside_any A c l 0 W hl.mild hc h hw)
    obtain ⟨r, hr⟩ : ∃ r, r = insideRes l 0 := ⟨_, rfl⟩
    obtain ⟨R, hR⟩ : ∃ R, R = isGrp l g := ⟨_, rfl⟩
    rw [← hR]
    unfold isGrp at hR
    rw [← hr] at hR HI
    rw [decide_eq_true h2, gx] at hR
    simp only [Bool.true_and, Option.any_some] at hR
    have HR := Lib.hid hR
    have HH := Lib.hid hh
    have HG := Lib.hid hg
    obtain ⟨b, off, rfl, c0, c1, c2⟩ := hh 0 _ gx
    simp only [Nat.zero_mul, Nat.add_zero] at c0 c1 c2
    have hlen := hl.len
    clear hh hg hl hr hR gx
    generalize l[0] = x at *
    have HS := Lib.hid (fun u => Gz.isSign_any x g u)
    unfold Gz.Tok.val at HS
    have k0 : (0 : Int) < (l.length : Int) := by omega
    have k1 : ¬ (l.length : Int) < 2 := by omega
    go_enter Tryz.func80, Tryz.ntmps80
    go_wp2_with fail
    refine (HS.out _).mono ?_
    rintro e w1 ⟨rfl, hb⟩
    have HH1 := Lib.hid (HH.out.below hb)
    have HG1 := Lib.hid (HG.out.below hb)
    have HB1 := Lib.hid hb
    clear hb c0 c1 c2
    cases hs : x.isSign g with
    | false =>
      obtain rfl : R = false := by rw [HR.out, hs]; rfl
      go_wp2_with fail
      go_ret
      exact ⟨rfl, HB1.out⟩
    | true =>
      have e1 := HR.out
      rw [hs, Bool.true_and] at e1
      have HR1 := Lib.hid e1
      clear e1
      go_wp2_with fail
      refine (HI.out _ HH1.out HG1.out).mono ?_
      rintro e w2 ⟨B, d, rfl, h1, hb⟩
      have HB2 := Lib.hid (HB1.out.trans (hb.mono HB1.out.size))
      have k2 : (l.length : Int) - 2 = ((l.length - 2 : Nat) : Int) := by omega
      clear hb h1
      by_cases q1 : r.2 = 0
      · have q2 : (r.2 == 0) = true := by simp [q1]
        by_cases q3 : r.1.length + 2 = l.length
        · have q4 : ((r.1.length : Int) == ((l.length - 2 : Nat) : Int)) = true := by simp; omega
          obtain rfl : R = true := by rw [HR1.out]; simp [q1, q3]
          clear q3
          rw [q1]
          go_wp2_with fail
          go_ret
          exact ⟨rfl, HB2.out⟩
        · have q4 : ((r.1.length : Int) == ((l.length - 2 : Nat) : Int)) = false := by simp; omega
          obtain rfl : R = false := by rw [HR1.out]; simp [q3]
          clear q3
          rw [q1]
          go_wp2_with fail
          go_ret
          exact ⟨rfl, HB2.out⟩
      · have q2 : (r.2 == 0) = false := by simp [q1]
        obtain rfl : R = false := by rw [HR1.out]; simp [q1]
        go_wp2_with fail
        go_ret
        exact ⟨rfl, HB2.out⟩
  · have e1 : isGrp l g = false := by unfold isGrp; rw [decide_eq_false h2]; rfl
    rw [e1]
    have hlen := hl.len
    have k1 : (l.length : Int) < 2 := by omega
    clear hh hg hl e1
    go_enter Tryz.func80, Tryz.ntmps80
    go_wp2_with fail
    go_ret
    exact ⟨rfl, Below.refl _ _⟩
end Go.Proofs.YtebejlnegalokaaGreatDoor
