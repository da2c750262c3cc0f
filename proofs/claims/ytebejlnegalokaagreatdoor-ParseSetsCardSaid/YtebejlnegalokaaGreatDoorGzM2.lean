/-
  XGrpE, turned: what this seat needs of it.
-/
import Derived.Test.YtebejlnegalokaaGreatDoorProg
import Derived.Test.YtebejlnegalokaaGreatDoorReg
import Derived.WalkKit
import Derived.WalkSpells
import Derived.WalkLawsBesides
import Derived.Lib.Hide
import Derived.Lib.MinMax
import Derived.Deep.QuietTactic
import Derived.BigQuiet
import Derived.OwnWalk
import Derived.Deep.AppendLies
import Derived.KernelRfl
import Derived.Test.YtebejlnegalokaaGreatDoorReg
import Derived.WalkKit
import Derived.Below
import Derived.Laws.OwnMore
import Derived.Deep.Draws
import Derived.Deep.AppendLies
import Derived.ChangeMaps5
import Derived.Deep.Slices
import Derived.WideShapes
import Derived.Test.YtebejlnegalokaaGreatDoorBytes
import Derived.LaidEql
import Derived.Stop.Asserts
import Derived.RowKitTokens
import Derived.Test.YtebejlnegalokaaGreatDoorGzM1
import Derived.Test.YtebejlnegalokaaGreatDoorMap
import Derived.ArgAppend
import Derived.Laws.Rows
import Derived.Deep.RegionLaw
set_option linter.unusedSimpArgs false
set_option linter.unusedVariables false
namespace Go.Proofs.YtebejlnegalokaaGreatDoor.Gz
open Go.RowKit Go.Extern.Stop Go.Stop Go.Extern
theorem as_valueOf27 (t : Addr) (w : World) : (ReflectliteValue.unpack (.iface 178 (.pointer (some t)))).run Tryz.prog w
    = .ok (.agg #[.pointer (some ⟨8, 178, none⟩), .pointer (some ⟨w.heap.size, 0, none⟩), .int .u64 150]) (w.alloc (.cells #[.pointer (some t)] 178)) := by kernel_rfl
theorem as_type27 (a : Addr) (w : World) : (ReflectliteValue.methodAny (ReflectliteValue.valueError "reflectlite.Value.Type" 0) (fun t _ _ _ => ReflectliteType.toType t) #[.agg #[.pointer (some ⟨8, 178, none⟩), .pointer (some a), .int .u64 150]]).run Tryz.prog w
    = .ok (.iface 163 (.agg #[.pointer (some ⟨8, 178, none⟩)])) w := by kernel_rfl
theorem as_methodKind (h : Value) (w : World) : (Go.method 347 163 (.agg #[h]) "Kind").run Tryz.prog w = .ok (156, h) w := by kernel_rfl
theorem as_kind27 (w : World) : ((ReflectliteType.abiMethod fun t => (fun a : Nat => Value.int IntKind.u8 (a : Int)) <$> Rtype.kind t) #[.pointer (some ⟨8, 178, none⟩)]).run Tryz.prog w = .ok (.int .u8 22) w := by kernel_rfl
theorem as_kind25 (w : World) : ((ReflectliteType.abiMethod fun t => (fun a : Nat => Value.int IntKind.u8 (a : Int)) <$> Rtype.kind t) #[.pointer (some ⟨8, 177, none⟩)]).run Tryz.prog w = .ok (.int .u8 25) w := by kernel_rfl
theorem rlm (z : Sem Value) (f : TypeId → Addr → Nat → Nat → Sem Value) (v : Value) :
    ReflectliteValue.method z f #[v] = (do match ← ReflectliteValue.parts v with | none => z | some (t, a, fl) => f t a fl (fl % 32)) := rfl
theorem as_parts27 (a : Addr) (w : World) : (ReflectliteValue.parts (.agg #[.pointer (some ⟨8, 178, none⟩), .pointer (some a), .int .u64 150])).run Tryz.prog w = .ok (some (178, a, 150)) w := by kernel_rfl
/-- (Value).IsNil at the Value of a **p.E that is not nil. -/
theorem as_isNil27 (a p : Addr) (W : World) (ha : W.cell? a = some (.pointer (some p))) :
    (ReflectliteValue.method (ReflectliteValue.valueError "reflectlite.Value.IsNil" 0) ReflectliteValue.isNil #[.agg #[.pointer (some ⟨8, 178, none⟩), .pointer (some a), .int .u64 150]]).run Tryz.prog W = .ok (.bool false) W := by
  rw [rlm]
  simp only [Sem.run_bind, as_parts27, Result.andThen]
  simp [ReflectliteValue.isNil, loadVar, isAgg, underlying, Tryz.underlying178, ha, Result.andThen]
theorem as_methodElem (h : Value) (w : World) : (Go.method 347 163 (.agg #[h]) "Elem").run Tryz.prog w = .ok (168, .agg #[h]) w := by kernel_rfl
theorem as_methodImplements (h : Value) (w : World) : (Go.method 347 163 (.agg #[h]) "Implements").run Tryz.prog w = .ok (169, .agg #[h]) w := by kernel_rfl
theorem as_methodAssignableTo (h : Value) (w : World) : (Go.method 347 163 (.agg #[h]) "AssignableTo").run Tryz.prog w = .ok (166, .agg #[h]) w := by kernel_rfl
theorem as_elem27 (w : World) : (ReflectliteType.method ReflectliteType.elem #[.agg #[.pointer (some ⟨8, 178, none⟩)]]).run Tryz.prog w = .ok (.iface 163 (.agg #[.pointer (some ⟨8, 177, none⟩)])) w := by kernel_rfl
theorem as_implements25 (w : World) : (ReflectliteType.relation "Implements" ReflectliteType.implements_ #[.agg #[.pointer (some ⟨8, 177, none⟩)], .iface 163 (.agg #[.pointer (some ⟨8, 67, none⟩)])]).run Tryz.prog w = .ok (.bool true) w := by kernel_rfl
theorem as_typeOf25 (v : Value) (w : World) : (ReflectliteType.typeOf #[.iface 177 v]).run Tryz.prog w = .ok (.iface 163 (.agg #[.pointer (some ⟨8, 177, none⟩)])) w := by kernel_rfl
theorem as_assignable25 (w : World) : (ReflectliteType.relation "AssignableTo" ReflectliteType.assignableTo #[.agg #[.pointer (some ⟨8, 177, none⟩)], .iface 163 (.agg #[.pointer (some ⟨8, 177, none⟩)])]).run Tryz.prog w = .ok (.bool true) w := by kernel_rfl
theorem as_valueOf25 (c p : Int) (e : Value) (w : World) : (ReflectliteValue.unpack (.iface 177 (.agg #[.int .i64 c, .int .i64 p, e]))).run Tryz.prog w
    = .ok (.agg #[.pointer (some ⟨8, 177, none⟩), .pointer (some ⟨w.heap.size, 0, none⟩), .int .u64 153]) (w.alloc (.cells #[.int .i64 c, .int .i64 p, e] 177)) := by kernel_rfl
theorem as_elemOf27 (w : World) : (Rtype.elem? 178).run Tryz.prog w = .ok (some 177) w := by kernel_rfl
theorem as_mk25 (p : Addr) (w : World) : (ReflectliteValue.mk 177 p ReflectliteValue.flagAddr).run Tryz.prog w = .ok (.agg #[.pointer (some ⟨8, 177, none⟩), .pointer (some p), .int .u64 409]) w := by kernel_rfl
/-- (Value).Elem at the Value of a **p.E that is not nil: the Value of the *p.E variable that it points to, addressable. -/
theorem as_elemV27 (a p : Addr) (W : World) (ha : W.cell? a = some (.pointer (some p))) :
    (ReflectliteValue.method (ReflectliteValue.valueError "reflectlite.Value.Elem" 0) ReflectliteValue.elem #[.agg #[.pointer (some ⟨8, 178, none⟩), .pointer (some a), .int .u64 150]]).run Tryz.prog W
      = .ok (.agg #[.pointer (some ⟨8, 177, none⟩), .pointer (some p), .int .u64 409]) W := by
  rw [rlm]
  simp only [Sem.run_bind, as_parts27, Result.andThen]
  simp [ReflectliteValue.elem, loadVar, isAgg, underlying, Tryz.underlying178, ha, Result.andThen, as_elemOf27, as_mk25]
theorem rls (v x : Value) : ReflectliteValue.set #[v, x] = (do
    let (some (dst, a, fl), some (src, b, _)) := (← ReflectliteValue.parts v, ← ReflectliteValue.parts x)
      | unsupported (.noEntry "extern/(internal/reflectlite.Value).Set.zeroValue")
    if fl / ReflectliteValue.flagAddr % 2 == 0 then unsupported (.noEntry "extern/(internal/reflectlite.Value).Set.unaddressable")
    let val ← loadVar src b
    if ← Rtype.directlyAssignable dst src then storeVar dst a val
    else if ← Rtype.implements dst src then
      if (← Rtype.kind src) == 20 then
        match val with
        | .nilIface => unsupported (.noEntry "extern/reflectlite: a nil value of one interface type handed on as a value of another")
        | _ => storeVar dst a val
      else storeVar dst a (.iface src val)
    else panicString ("reflectlite.Set: value of type " ++ (← Rtype.spelt src) ++ " is not assignable to type " ++ (← Rtype.spelt dst))
    pure (.tuple #[])) := rfl
theorem as_parts25a (a : Addr) (w : World) : (ReflectliteValue.parts (.agg #[.pointer (some ⟨8, 177, none⟩), .pointer (some a), .int .u64 409])).run Tryz.prog w = .ok (some (177, a, 409)) w := by kernel_rfl
theorem as_parts25 (a : Addr) (w : World) : (ReflectliteValue.parts (.agg #[.pointer (some ⟨8, 177, none⟩), .pointer (some a), .int .u64 153])).run Tryz.prog w = .ok (some (177, a, 153)) w := by kernel_rfl
theorem as_direct25 (w : World) : (Rtype.directlyAssignable 177 177).run Tryz.prog w = .ok true w := by kernel_rfl
theorem as_size25 (w : World) : (sizeOf 177).run Tryz.prog w = .ok 3 w := by kernel_rfl
/-- (Value).Set: the variable at block tb gets what the Value's own variable 'b' holds. -/
theorem as_set25 (tb : Nat) (b : Addr) (c p : Int) (e : Value) (he : e.oneCell' = true) (o0 o1 o2 : Value) (W : World) (h0 : W.cell? (b.add 0) = some (.int .i64 c)) (h1 : W.cell? (b.add 1) = some (.int .i64 p)) (h2 : W.cell? (b.add 2) = some e)
    (ht : W.heap[tb]? = some (.cells #[o0, o1, o2] 177 (0, 0))) :
    (ReflectliteValue.set #[.agg #[.pointer (some ⟨8, 177, none⟩), .pointer (some ⟨tb, 0, none⟩), .int .u64 409], .agg #[.pointer (some ⟨8, 177, none⟩), .pointer (some b), .int .u64 153]]).run Tryz.prog W
      = .ok (.tuple #[]) (W.setRow tb #[.int .i64 c, .int .i64 p, e]) := by
  have el : (loadCells b 3).run Tryz.prog W = .ok #[.int .i64 c, .int .i64 p, e] W := by
    have h := run_loadCells_list (P := Tryz.prog) W b [.int .i64 c, .int .i64 p, e] (fun j u hj => by
      match j, hj with
      | 0, hj => simp at hj; subst hj; exact h0
      | 1, hj => simp at hj; subst hj; exact h1
      | 2, hj => simp at hj; subst hj; exact h2
      | j + 3, hj => simp at hj)
    simpa using h
  have es := run_storeCells_at Tryz.prog tb 0 177 [.int .i64 c, .int .i64 p, e] 0 #[o0, o1, o2] W ht (by simp) (by intro v hv; simp at hv; rcases hv with rfl | rfl | rfl; rfl; rfl; exact he)
  rw [rls]
  simp only [Sem.run_bind, as_parts25a, as_parts25, Result.andThen]
  simp [ReflectliteValue.flagAddr, loadVar, isAgg, underlying, Tryz.underlying177, Result.andThen, as_direct25, el, as_size25, storeVar, Value.cells, es]
set_option maxRecDepth 100000 in
set_option maxHeartbeats 4000000 in
theorem as_hit (c p : Int) (e : Value) (he : e.oneCell' = true) (tb : Nat) (o0 o1 o2 : Value) (w : World) (hg : w.cell? ⟨2, 0, none⟩ = some (.iface 163 (.agg #[.pointer (some ⟨8, 67, none⟩)]))) (ht0 : w.heap[tb]? = some (.cells #[o0, o1, o2] 177 (0, 0))) :
    Calls Tryz.prog 71 #[.iface 177 (.agg #[.int .i64 c, .int .i64 p, e]), .iface 178 (.pointer (some ⟨tb, 0, none⟩))] w fun ev w' => ev = .returned (.bool true) ∧ w' = ((((w.alloc (.cells #[.pointer (some ⟨tb, 0, none⟩)] 178)).alloc (.cells #[.pointer (some ⟨8, 178, none⟩), .pointer (some ⟨w.heap.size, 0, none⟩), .int .u64 150] 148)).alloc (.cells #[.pointer (some ⟨8, 178, none⟩), .pointer (some ⟨w.heap.size, 0, none⟩), .int .u64 150] 148)).alloc (.cells #[.int .i64 c, .int .i64 p, e] 177)).setRow tb #[.int .i64 c, .int .i64 p, e] := by
  have h6 := @run_callFunc_extern Tryz.prog 104 _ (fun args => ReflectliteValue.unpack (args.getD 0 (.tuple #[]))) Tryz.func104 (by kernel_rfl) (by kernel_rfl) (by kernel_rfl) (by kernel_rfl)
  have h7 := @run_callFunc_extern Tryz.prog 105 _ (ReflectliteValue.methodAny (ReflectliteValue.valueError "reflectlite.Value.Type" 0) (fun t _ _ _ => ReflectliteType.toType t)) Tryz.func105 (by kernel_rfl) (by kernel_rfl) (by kernel_rfl) (by kernel_rfl)
  have h8 := @run_callFunc_extern Tryz.prog 106 _ (ReflectliteValue.method (ReflectliteValue.valueError "reflectlite.Value.IsNil" 0) ReflectliteValue.isNil) Tryz.func106 (by kernel_rfl) (by kernel_rfl) (by kernel_rfl) (by kernel_rfl)
  have h27 := @run_callFunc_extern Tryz.prog 156 _ (ReflectliteType.abiMethod fun t => do pure (.int .u8 (← Rtype.kind t))) Tryz.func156 (by kernel_rfl) (by kernel_rfl) (by kernel_rfl) (by kernel_rfl)
  have h37 := @run_callFunc_extern Tryz.prog 168 _ (ReflectliteType.method ReflectliteType.elem) Tryz.func168 (by kernel_rfl) (by kernel_rfl) (by kernel_rfl) (by kernel_rfl)
  have h38 := @run_callFunc_extern Tryz.prog 169 _ (ReflectliteType.relation "Implements" ReflectliteType.implements_) Tryz.func169 (by kernel_rfl) (by kernel_rfl) (by kernel_rfl) (by kernel_rfl)
  have h10 := @run_callFunc_extern Tryz.prog 83 _ ReflectliteType.typeOf Tryz.func83 (by kernel_rfl) (by kernel_rfl) (by kernel_rfl) (by kernel_rfl)
  have h35 := @run_callFunc_extern Tryz.prog 166 _ (ReflectliteType.relation "AssignableTo" ReflectliteType.assignableTo) Tryz.func166 (by kernel_rfl) (by kernel_rfl) (by kernel_rfl) (by kernel_rfl)
  have h11 := @run_callFunc_extern Tryz.prog 121 _ (ReflectliteValue.method (ReflectliteValue.valueError "reflectlite.Value.Elem" 0) ReflectliteValue.elem) Tryz.func121 (by kernel_rfl) (by kernel_rfl) (by kernel_rfl) (by kernel_rfl)
  have h12 := @run_callFunc_extern Tryz.prog 122 _ ReflectliteValue.set Tryz.func122 (by kernel_rfl) (by kernel_rfl) (by kernel_rfl) (by kernel_rfl)
  have tO := as_typeOf25
  have mA := as_methodAssignableTo
  have a25 := as_assignable25
  have v25 := as_valueOf25
  have f6 := as_valueOf27
  have f7 := as_type27
  have mK := as_methodKind
  have mE := as_methodElem
  have mI := as_methodImplements
  have k27 := as_kind27
  have k25 := as_kind25
  have e27 := as_elem27
  have i25 := as_implements25
  have n8 := as_isNil27 ⟨w.heap.size, 0, none⟩ ⟨tb, 0, none⟩ ((w.alloc (.cells #[.pointer (some ⟨tb, 0, none⟩)] 178)).alloc (.cells #[.pointer (some ⟨8, 178, none⟩), .pointer (some ⟨w.heap.size, 0, none⟩), .int .u64 150] 148)) (by simp)
  have hlt : 2 < w.heap.size := cell_lt hg
  have hg2 : ((w.alloc (.cells #[.pointer (some ⟨tb, 0, none⟩)] 178)).alloc (.cells #[.pointer (some ⟨8, 178, none⟩), .pointer (some ⟨w.heap.size, 0, none⟩), .int .u64 150] 148)).cell? ⟨2, 0, none⟩ = some (.iface 163 (.agg #[.pointer (some ⟨8, 67, none⟩)])) := by
    rw [World.cell?_alloc_lt _ _ ⟨2, 0, none⟩ (by simp; omega), World.cell?_alloc_lt _ _ ⟨2, 0, none⟩ hlt]; exact hg
  have htl : tb < w.heap.size := (Array.getElem?_eq_some_iff.1 ht0).1
  have el := as_elemV27 ⟨w.heap.size, 0, none⟩ ⟨tb, 0, none⟩ (((w.alloc (.cells #[.pointer (some ⟨tb, 0, none⟩)] 178)).alloc (.cells #[.pointer (some ⟨8, 178, none⟩), .pointer (some ⟨w.heap.size, 0, none⟩), .int .u64 150] 148)).alloc (.cells #[.pointer (some ⟨8, 178, none⟩), .pointer (some ⟨w.heap.size, 0, none⟩), .int .u64 150] 148)) (by rw [World.cell?_alloc_lt _ _ ⟨w.heap.size, 0, none⟩ (by simp; omega)]; simp)
  have bel : Below w.heap.size w ((((w.alloc (.cells #[.pointer (some ⟨tb, 0, none⟩)] 178)).alloc (.cells #[.pointer (some ⟨8, 178, none⟩), .pointer (some ⟨w.heap.size, 0, none⟩), .int .u64 150] 148)).alloc (.cells #[.pointer (some ⟨8, 178, none⟩), .pointer (some ⟨w.heap.size, 0, none⟩), .int .u64 150] 148)).alloc (.cells #[.int .i64 c, .int .i64 p, e] 177)) := ((((Below.refl _ w).alloc (Nat.le_refl _) _).alloc (by simp) _).alloc (by simp; omega) _).alloc (by simp; omega) _
  have nw : ∀ j v, (#[.int .i64 c, .int .i64 p, e] : Array Value)[j]? = some v → ((((w.alloc (.cells #[.pointer (some ⟨tb, 0, none⟩)] 178)).alloc (.cells #[.pointer (some ⟨8, 178, none⟩), .pointer (some ⟨w.heap.size, 0, none⟩), .int .u64 150] 148)).alloc (.cells #[.pointer (some ⟨8, 178, none⟩), .pointer (some ⟨w.heap.size, 0, none⟩), .int .u64 150] 148)).alloc (.cells #[.int .i64 c, .int .i64 p, e] 177)).cell? ⟨w.heap.size + 1 + 1 + 1, j, none⟩ = some v := fun j v hj => by rw [World.cell?_alloc_at _ _ _ _ (by simp)]; exact hj
  have st := as_set25 tb ⟨w.heap.size + 1 + 1 + 1, 0, none⟩ c p e he o0 o1 o2 ((((w.alloc (.cells #[.pointer (some ⟨tb, 0, none⟩)] 178)).alloc (.cells #[.pointer (some ⟨8, 178, none⟩), .pointer (some ⟨w.heap.size, 0, none⟩), .int .u64 150] 148)).alloc (.cells #[.pointer (some ⟨8, 178, none⟩), .pointer (some ⟨w.heap.size, 0, none⟩), .int .u64 150] 148)).alloc (.cells #[.int .i64 c, .int .i64 p, e] 177))
    (nw 0 _ rfl) (nw 1 _ rfl) (nw 2 _ rfl) ((bel.block tb htl).trans ht0)
  clear bel nw
  go_enter Tryz.func71, Tryz.ntmps71
  go_wp2
  refine wp_loop_rounds 1 ?_
  rw [rounds_succ]
  go_wp2
  go_ret
  exact ⟨rfl, rfl⟩
end Go.Proofs.YtebejlnegalokaaGreatDoor.Gz
/-
  XGrpA, turned: what this seat needs of it.
-/
namespace Go.Proofs.YtebejlnegalokaaGreatDoor.Gz
open Go.RowKit
theorem sign_any (x : Tok) (g : ByteArray) (w : World) :
    Calls Tryz.prog 85 #[x.val, .string g] w fun r w' => r = .returned (.agg #[.int .i64 8, .string x.text, .string g]) ∧ Below w.heap.size w w' := by
  unfold Tok.val
  go_enter Tryz.func85, Tryz.ntmps85
  go_wp2_with fail
  refine bodyPost_ret (results_cell_row rfl _ _ (w.heap.size + 1) 37 #[.int .i64 8, .string x.text, .string g] (0, 0) _ rfl ?_ Tryz.underlying37 rfl (by kernel_rfl)) rfl ?_
  · have := heap_alloc_new (w.alloc (.cells #[.int .i64 x.kind, .string x.text, .string x.glyph] 37)) (.cells #[.int .i64 8, .string x.text, .string g] 37)
    rwa [World.size_alloc] at this
  exact ⟨rfl, ((Below.refl _ _).alloc (Nat.le_refl _) _).alloc (by simp) _⟩
set_option maxRecDepth 100000 in
set_option maxHeartbeats 1000000 in
theorem isSign_any (x : Tok) (g : ByteArray) (w : World) :
    Calls Tryz.prog 61 #[x.val, .string g] w fun r w' => r = .returned (.bool (x.isSign g)) ∧ Below w.heap.size w w' := by
  have HS := Lib.hid (fun u => sign_any x g u)
  unfold Tok.val at *
  unfold Tok.isSign
  generalize x.kind = k at *
  generalize x.glyph = h at *
  generalize x.text = t at *
  go_enter Tryz.func61, Tryz.ntmps61
  go_wp2_with fail
  refine wp_region_head (S := fun w' => w'.cell? ⟨w.heap.size, 0, none⟩ = some (.int .i64 k) ∧ w'.cell? ⟨w.heap.size, 1, none⟩ = some (.string t) ∧ w'.cell? ⟨w.heap.size, 2, none⟩ = some (.string h)) 3 (by kernel_rfl) (by kernel_rfl) (fun _ _ _ _ _ h => h) ⟨by simp, by simp, by simp⟩ ?_
  simp only [List.take_succ_cons, List.take_zero, List.drop_succ_cons, List.drop_zero]
  repeat (refine wpHead_step (v := ?_) rfl ?_ ?_; rotate_left; (focus (rintro w1 ⟨c1, c2, c3⟩; go_simp; try with_reducible rfl)); simp only [Act.put, List.setIfInBounds_toArray, List.set_cons_zero, List.set_cons_succ])
  refine wpHead_nil ?_
  refine wpTail_step rfl (fun K hK => ?_)
  go_wp2_with fail
  refine (HS.out _).mono ?_
  rintro r w' ⟨rfl, hb⟩
  have c1 := (hb.cell (p := ⟨w.heap.size, 0, none⟩) (by simp)).trans (show _ = some (Value.int .i64 k) by simp)
  have c2 := (hb.cell (p := ⟨w.heap.size, 1, none⟩) (by simp)).trans (show _ = some (Value.string t) by simp)
  have c3 := (hb.cell (p := ⟨w.heap.size, 2, none⟩) (by simp)).trans (show _ = some (Value.string h) by simp)
  have B := Lib.hid (((Below.refl w.heap.size w).alloc (Nat.le_refl _) (.cells #[.int .i64 k, .string t, .string h] 37)).drew.trans (hb.mono (by simp)))
  go_wp2_with fail
  refine hK _ _ ⟨c1, c2, c3⟩ ?_
  clear hK K
  try simp only [Act.put, List.setIfInBounds_toArray, List.set_cons_zero, List.set_cons_succ]
  refine wpTail_step rfl (fun K hK => ?_)
  by_cases e1 : k = 8
  · by_cases e2 : h = g
    · subst e1
      subst e2
      have hq := bytes_beq_yes (rfl : h = h)
      have hq2 := bytes_beq_yes (rfl : t = t)
      go_wp2_with fail
      refine hK _ _ ⟨c1, c2, c3⟩ ?_
      clear hK K
      try simp only [Act.put, List.setIfInBounds_toArray, List.set_cons_zero, List.set_cons_succ]
      refine wpTail_step rfl (fun K hK => ?_)
      go_wp2_with fail
      refine hK _ _ ⟨c1, c2, c3⟩ ?_
      clear hK K
      try simp only [Act.put, List.setIfInBounds_toArray, List.set_cons_zero, List.set_cons_succ]
      refine wpTail_nil ?_
      go_wp2_with fail
      go_ret
      exact ⟨by simp, B.out⟩
    · subst e1
      have hq := bytes_beq_no e2
      have hq2 := bytes_beq_yes (rfl : t = t)
      go_wp2_with fail
      refine hK _ _ ⟨c1, c2, c3⟩ ?_
      clear hK K
      try simp only [Act.put, List.setIfInBounds_toArray, List.set_cons_zero, List.set_cons_succ]
      refine wpTail_step rfl (fun K hK => ?_)
      go_wp2_with fail
      refine hK _ _ ⟨c1, c2, c3⟩ ?_
      clear hK K
      try simp only [Act.put, List.setIfInBounds_toArray, List.set_cons_zero, List.set_cons_succ]
      refine wpTail_nil ?_
      go_wp2_with fail
      go_ret
      exact ⟨by simp [e2], B.out⟩
  · have q : (k == 8) = false := by simpa using e1
    go_wp2_with fail
    refine hK _ _ ⟨c1, c2, c3⟩ ?_
    clear hK K
    try simp only [Act.put, List.setIfInBounds_toArray, List.set_cons_zero, List.set_cons_succ]
    refine wpTail_step rfl (fun K hK => ?_)
    go_wp2_with fail
    refine hK _ _ ⟨c1, c2, c3⟩ ?_
    clear hK K
    try simp only [Act.put, List.setIfInBounds_toArray, List.set_cons_zero, List.set_cons_succ]
    refine wpTail_nil ?_
    go_wp2_with fail
    go_ret
    exact ⟨by simp [e1], B.out⟩
end Go.Proofs.YtebejlnegalokaaGreatDoor.Gz
/-
  XGrpB, turned: what this seat needs of it.
-/
namespace Go.Proofs.YtebejlnegalokaaGreatDoor.Gz
open Go.RowKit
def Tok.opn (x : Tok) : Bool := x.isSign gPar || x.isSign gCur
def Tok.cls (x : Tok) : Bool := x.isSign gPas || x.isSign gCus
theorem boxed3 {w w' : World} {k : Int} {t h : ByteArray} {T : TypeId} (hb : Below (w.heap.size + 1) (w.alloc (.cells #[.int .i64 k, .string t, .string h] T)) w') :
    w'.cell? ⟨w.heap.size, 0, none⟩ = some (.int .i64 k) ∧ w'.cell? ⟨w.heap.size, 1, none⟩ = some (.string t) ∧ w'.cell? ⟨w.heap.size, 2, none⟩ = some (.string h) ∧ Below w.heap.size w w' :=
  ⟨(hb.cell (p := ⟨w.heap.size, 0, none⟩) (by simp)).trans (by simp), (hb.cell (p := ⟨w.heap.size, 1, none⟩) (by simp)).trans (by simp), (hb.cell (p := ⟨w.heap.size, 2, none⟩) (by simp)).trans (by simp),
    ((Below.refl _ _).alloc (Nat.le_refl _) _).trans (hb.mono (by omega))⟩
end Go.Proofs.YtebejlnegalokaaGreatDoor.Gz
/-
  XGrpC, turned: what this seat needs of it.
-/
namespace Go.Proofs.YtebejlnegalokaaGreatDoor.Gz
open Go.RowKit
/-- What closes a glyph. -/
def closeOf (g : ByteArray) : Option ByteArray := if g = gCur then some gCus else if g = gPar then some gPas else none
def look2 (x : ByteArray) : Option Value := if x = gCur then some (.string gCus) else if x = gPar then some (.string gPas) else none
theorem look2_is (g : ByteArray) : look2 g = (closeOf g).map Value.string := by
  unfold look2 closeOf
  split
  · rfl
  · split <;> rfl
set_option maxRecDepth 100000 in
set_option maxHeartbeats 1000000 in
theorem closers_any (w : World) :
    Calls Tryz.prog 127 #[] w fun r w' => r = .returned (.map (some w.heap.size)) ∧ MapIs w' Tryz.prog 9 w.heap.size 2 look2 ∧ Below w.heap.size w w' := by
  have hmm := @run_makeMap Tryz.prog
  have hk := Tryz.underlying9
  have ht := Tryz.underlying197
  obtain ⟨w1, r1, m1, g1⟩ := (MapIs.made w Tryz.prog 9).put hk ht (by unfold maxLen; omega) gPar (by decide) (.string gPas)
  obtain ⟨w2, r2, m2, g2⟩ := m1.put hk ht (by unfold maxLen; omega) gCur (by decide) (.string gCus)
  have hb2 : Below w.heap.size w w2 := by
    have h0 : Below w.heap.size w (w.alloc (.map #[] 0)) := (Below.refl _ _).alloc (Nat.le_refl _) _
    have st : ∀ {u v : World}, Below w.heap.size w u → u.grownBy v (some w.heap.size) → Below w.heap.size w v := fun hu hg => hu.grown hg hu.size (fun k hk => by cases hk; exact Nat.le_refl _)
    exact st (st h0 g1) g2
  have m2' : MapIs w2 Tryz.prog 9 w.heap.size 2 look2 := m2
  have B := Lib.hid hb2
  have M := Lib.hid m2'
  clear m1 m2 m2' g1 g2 hb2
  unfold gPar gPas at r1
  unfold gCur gCus at r2
  go_enter Tryz.func127, Tryz.ntmps127
  go_wp2_with fail
  go_ret
  exact ⟨rfl, M.out, B.out⟩
/-- What 'opens' tells. -/
def opensOut (x : Tok) : Value := .tuple #[.string ((closeOf x.glyph).getD ByteArray.empty), .bool ((closeOf x.glyph).isSome && decide (x.kind = 8))]
set_option maxRecDepth 100000 in
set_option maxHeartbeats 1000000 in
theorem opens_any (x : Tok) (w : World) (hx : x.glyph.size ≤ maxLen) :
    Calls Tryz.prog 113 #[x.val] w fun r w' => r = .returned (opensOut x) ∧ Below w.heap.size w w' := by
  obtain ⟨k, t, h⟩ := x
  unfold Tok.val opensOut
  simp only at hx ⊢
  have C := Lib.hid closers_any
  have hk := Tryz.underlying9
  have ht := Tryz.underlying197
  have hz : ∀ u : World, (zeroValue 9).run Tryz.prog u = .ok (.string ByteArray.empty) u := fun u => by kernel_rfl
  go_enter Tryz.func113, Tryz.ntmps113
  go_wp2_with fail
  refine wp_region_four (S := fun w' => w'.cell? ⟨w.heap.size, 0, none⟩ = some (.int .i64 k) ∧ w'.cell? ⟨w.heap.size, 2, none⟩ = some (.string h)) [1, 2] [0, 3, 4] [5, 6] [7, 8] (by kernel_rfl) (by kernel_rfl) (fun _ _ _ _ _ h => h) ⟨by simp, by simp⟩ ?_
  simp only [pick, List.filterMap_cons, List.filterMap_nil, List.getElem?_toArray, List.getElem?_cons_zero, List.getElem?_cons_succ]
  repeat (refine wpHead_step (v := ?_) rfl ?_ ?_; rotate_left; (focus (rintro w1 ⟨c1, c3⟩; go_simp; try with_reducible rfl)); simp only [Act.put, List.setIfInBounds_toArray, List.set_cons_zero, List.set_cons_succ])
  refine wpHead_nil ?_
  refine wpTailK_step rfl (fun K hK => ?_)
  go_wp2_with fail
  refine (C.out _).mono ?_
  rintro r w1 ⟨rfl, hm, hb⟩
  have c1 := (hb.cell (p := ⟨w.heap.size, 0, none⟩) (by simp)).trans (show _ = some (Value.int .i64 k) by simp)
  have c3 := (hb.cell (p := ⟨w.heap.size, 2, none⟩) (by simp)).trans (show _ = some (Value.string h) by simp)
  have B := Lib.hid (((Below.refl w.heap.size w).alloc (Nat.le_refl _) (.cells #[.int .i64 k, .string t, .string h] 37)).drew.trans (hb.mono (by simp)))
  have hl := hm.get true hk ht (hz w1) h hx
  rw [look2_is] at hl
  have lt1 : w.heap.size < w1.heap.size := cell_lt c1
  clear hm hb hk ht hz
  have e1 : ((closeOf h).map Value.string).getD (.string ByteArray.empty) = .string ((closeOf h).getD ByteArray.empty) := by cases closeOf h <;> rfl
  have e2 : ((closeOf h).map Value.string).isSome = (closeOf h).isSome := by cases closeOf h <;> rfl
  rw [e1, e2] at hl
  simp only [if_true] at hl
  clear e1 e2
  obtain ⟨cl, hcl⟩ : ∃ c, (closeOf h).getD ByteArray.empty = c := ⟨_, rfl⟩
  obtain ⟨ok, hok⟩ : ∃ c, (closeOf h).isSome = c := ⟨_, rfl⟩
  rw [hcl, hok] at hl
  have HC := Lib.hid hcl
  have HO := Lib.hid hok
  clear hcl hok
  simp only [World.size_alloc, World.size_drew] at hl
  go_wp2_with fail
  refine hK _ _ ⟨c1, c3⟩ ?_
  clear hK K
  try simp only [Act.put, List.setIfInBounds_toArray, List.set_cons_zero, List.set_cons_succ]
  refine wpTailK_step rfl (fun K hK => ?_)
  go_wp2_with fail
  refine hK _ _ ⟨c1, c3⟩ ?_
  clear hK K
  try simp only [Act.put, List.setIfInBounds_toArray, List.set_cons_zero, List.set_cons_succ]
  refine wpTailK_step rfl (fun K hK => ?_)
  go_wp2_with fail
  refine hK _ _ ⟨c1, c3⟩ ?_
  clear hK K
  try simp only [Act.put, List.setIfInBounds_toArray, List.set_cons_zero, List.set_cons_succ]
  refine wpTailK_nil ?_
  repeat (refine wpHead_step (v := ?_) rfl ?_ ?_; rotate_left; (focus (rintro w1 ⟨c1, c3⟩; go_simp; try with_reducible rfl)); simp only [Act.put, List.setIfInBounds_toArray, List.set_cons_zero, List.set_cons_succ])
  refine wpHead_nil ?_
  refine wpTail_step rfl (fun K hK => ?_)
  go_wp2_with fail
  refine hK _ _ ⟨c1, c3⟩ ?_
  clear hK K
  try simp only [Act.put, List.setIfInBounds_toArray, List.set_cons_zero, List.set_cons_succ]
  refine wpTail_step rfl (fun K hK => ?_)
  go_wp2_with fail
  refine hK _ _ ⟨c1, c3⟩ ?_
  clear hK K
  try simp only [Act.put, List.setIfInBounds_toArray, List.set_cons_zero, List.set_cons_succ]
  refine wpTail_nil ?_
  cases ok with
  | false =>
    go_wp2_with fail
    go_quiet (fail)
    go_wp2_with fail
    go_ret2
    exact ⟨by rw [HC.out, HO.out]; simp, below_drewN B.out _⟩
  | true =>
    by_cases e1 : k = 8
    · subst e1
      go_wp2_with fail
      go_quiet (fail)
      go_wp2_with fail
      go_ret2
      exact ⟨by rw [HC.out, HO.out]; simp, below_drewN B.out _⟩
    · have q : (k == 8) = false := by simpa using e1
      go_wp2_with fail
      go_quiet (fail)
      go_wp2_with fail
      go_ret2
      exact ⟨by rw [HC.out, HO.out]; simp [e1], below_drewN B.out _⟩
/-- Is it a bracket? -/
def Tok.brk (x : Tok) : Bool := ((closeOf x.glyph).isSome && decide (x.kind = 8)) || (x.isSign gPas || x.isSign gCus)
set_option maxRecDepth 100000 in
set_option maxHeartbeats 1000000 in
theorem isBracket_any (x : Tok) (w : World) (hx : x.glyph.size ≤ maxLen) :
    Calls Tryz.prog 88 #[x.val] w fun r w' => r = .returned (.bool x.brk) ∧ Below w.heap.size w w' := by
  have H0 := Lib.hid (fun u => opens_any x u hx)
  have H1 := Lib.hid (fun u => isSign_any x gPas u)
  have H2 := Lib.hid (fun u => isSign_any x gCus u)
  unfold Tok.brk
  unfold opensOut at H0
  obtain ⟨k, t, h⟩ := x
  generalize ((closeOf (Tok.mk k t h).glyph).isSome && decide ((Tok.mk k t h).kind = 8)) = o at *
  generalize (closeOf (Tok.mk k t h).glyph).getD ByteArray.empty = cl at *
  generalize (Tok.mk k t h).isSign gPas = p at *
  generalize (Tok.mk k t h).isSign gCus = q at *
  unfold Tok.val at *
  simp only at *
  go_enter Tryz.func88, Tryz.ntmps88
  go_wp2_with fail
  refine (H0.out _).mono ?_
  rintro r w1 ⟨rfl, hb⟩
  rw [World.size_alloc] at hb
  obtain ⟨c1, c2, c3, b1⟩ := boxed3 hb
  have B1 := Lib.hid b1
  have lt1 : w.heap.size < w1.heap.size := cell_lt c1
  clear hb b1
  cases o with
  | true =>
    go_wp2_with fail
    all_goals go_ret
    all_goals exact ⟨rfl, B1.out⟩
  | false =>
    go_wp2_with fail
    refine (H1.out _).mono ?_
    rintro r w2 ⟨rfl, hb⟩
    have d1 := (hb.cell (cell_lt c1)).trans c1
    have d2 := (hb.cell (cell_lt c2)).trans c2
    have d3 := (hb.cell (cell_lt c3)).trans c3
    have lt2 : w.heap.size < w2.heap.size := cell_lt d1
    have B2 := Lib.hid (B1.out.trans (hb.mono B1.out.size))
    clear hb c1 c2 c3 lt1
    cases p with
    | true =>
      go_wp2_with fail
      all_goals go_ret
      all_goals exact ⟨rfl, B2.out⟩
    | false =>
      go_wp2_with fail
      refine (H2.out _).mono ?_
      rintro r w3 ⟨rfl, hb⟩
      have B3 := Lib.hid (B2.out.trans (hb.mono B2.out.size))
      clear hb
      cases q
      all_goals
        go_wp2_with fail
        all_goals go_ret
        all_goals exact ⟨rfl, B3.out⟩
end Go.Proofs.YtebejlnegalokaaGreatDoor.Gz
/-
  XGrpD, turned: what this seat needs of it.
-/
namespace Go.Proofs.YtebejlnegalokaaGreatDoor.Gz
open Go.RowKit
theorem infoInt : (Tryz.prog.info? 3).map (fun i => (i.zero, i.size, i.bytes)) = some (some (.int .i64 0), 1, 8) := by kernel_rfl
set_option maxRecDepth 100000 in
set_option maxHeartbeats 2000000 in
theorem told_any (c p : Int) (e : Value) (he : e.oneCell' = true) (w : World) (hg : w.cell? ⟨2, 0, none⟩ = some (.iface 163 (.agg #[.pointer (some ⟨8, 67, none⟩)]))) :
    Calls Tryz.prog 87 #[.iface 177 (.agg #[.int .i64 c, .int .i64 p, e])] w fun r w' => r = .returned (.int .i64 c) ∧ Below w.heap.size w w' := by
  have H := Lib.hid (fun (o0 o1 o2 : Value) => as_hit c p e he w.heap.size o0 o1 o2 (w.alloc (.cells #[o0, o1, o2] 177)) ((World.cell?_alloc_lt _ _ _ (cell_lt hg)).trans hg) (heap_alloc_new w _))
  clear hg
  go_enter Tryz.func87, Tryz.ntmps87
  go_wp2_with fail
  refine (H.out _ _ _).mono ?_
  rintro r w' ⟨rfl, hw⟩
  have hb : Below w.heap.size w w' := by
    subst hw
    have hb0 := ((((((Below.refl _ w).alloc (Nat.le_refl _) (.cells #[.int .i64 0, .int .i64 0, .nilIface] 177)).alloc (by simp) (.cells #[.pointer (some ⟨w.heap.size, 0, none⟩)] 178)).alloc (by simp; omega) (.cells #[.pointer (some ⟨8, 178, none⟩), .pointer (some ⟨w.heap.size + 1, 0, none⟩), .int .u64 150] 148)).alloc (by simp; omega) (.cells #[.pointer (some ⟨8, 178, none⟩), .pointer (some ⟨w.heap.size + 1, 0, none⟩), .int .u64 150] 148)).alloc (by simp; omega) (.cells #[.int .i64 c, .int .i64 p, e] 177))
    simp only [World.size_alloc]
    exact hb0.grown (grownBy_setRow _ _ _) (by simp; omega) (fun k hk => by cases hk; exact Nat.le_refl _)
  have hc : w'.cell? ⟨w.heap.size, 0, none⟩ = some (.int .i64 c) := by
    subst hw
    have h0 : ((((((w.alloc (.cells #[.int .i64 0, .int .i64 0, .nilIface] 177)).alloc (.cells #[.pointer (some ⟨w.heap.size, 0, none⟩)] 178)).alloc (.cells #[.pointer (some ⟨8, 178, none⟩), .pointer (some ⟨w.heap.size + 1, 0, none⟩), .int .u64 150] 148)).alloc (.cells #[.pointer (some ⟨8, 178, none⟩), .pointer (some ⟨w.heap.size + 1, 0, none⟩), .int .u64 150] 148)).alloc (.cells #[.int .i64 c, .int .i64 p, e] 177))).heap[w.heap.size]? = some (.cells #[.int .i64 0, .int .i64 0, .nilIface] 177 (0, 0)) := by
      have hb0 := (((((Below.refl _ (w.alloc (.cells #[.int .i64 0, .int .i64 0, .nilIface] 177))).alloc (Nat.le_refl _) (.cells #[.pointer (some ⟨w.heap.size, 0, none⟩)] 178)).alloc (by simp) (.cells #[.pointer (some ⟨8, 178, none⟩), .pointer (some ⟨w.heap.size + 1, 0, none⟩), .int .u64 150] 148)).alloc (by simp) (.cells #[.pointer (some ⟨8, 178, none⟩), .pointer (some ⟨w.heap.size + 1, 0, none⟩), .int .u64 150] 148)).alloc (by simp) (.cells #[.int .i64 c, .int .i64 p, e] 177))
      exact (hb0.block _ (by simp)).trans (heap_alloc_new w _)
    simp only [World.size_alloc]
    have h1 := setRow_heap _ _ _ #[.int .i64 c, .int .i64 p, e] _ _ h0
    simp [World.cell?, h1]
  clear hw
  go_wp2_with fail
  go_ret
  exact ⟨rfl, hb⟩
set_option maxRecDepth 100000 in
set_option maxHeartbeats 2000000 in
theorem pop_no (a o cap : Nat) (A : Option Addr) (w : World) (hS : w.cell? ⟨a, o, none⟩ = some (.slice A 0 cap)) :
    Calls Tryz.prog 126 #[.pointer (some ⟨a, o, none⟩)] w fun r w' => r = .returned (.tuple #[.int .i64 0, .bool false]) ∧ w' = w := by
  go_enter Tryz.func126, Tryz.ntmps126
  go_wp2_with fail
  go_ret2
  exact ⟨rfl, rfl⟩
set_option maxRecDepth 100000 in
set_option maxHeartbeats 2000000 in
theorem pop_yes (a o b off n cap : Nat) (x : Int) (w : World) (hS : w.cell? ⟨a, o, none⟩ = some (.slice (some ⟨b, off, none⟩) (n + 1) cap)) (hf : w.frozen? ⟨a, o, none⟩ = false) (hn : n + 1 ≤ cap) (hn2 : n ≤ 1000) (hx : w.cell? ⟨b, off + n, none⟩ = some (.int .i64 x)) :
    Calls Tryz.prog 126 #[.pointer (some ⟨a, o, none⟩)] w fun r w' => r = .returned (.tuple #[.int .i64 x, .bool true]) ∧ w' = w.setCell ⟨a, o, none⟩ (.slice (some ⟨b, off, none⟩) n cap) := by
  have e1 : IntKind.i64.wrap (((n + 1 : Nat) : Int) - 1) = (n : Int) := by rw [IntWalk.i64_in] <;> omega
  have q0 : (0 : Int) ≤ (n : Int) := by omega
  have q1 : ((n + 1 : Nat) : Int) - 1 = (n : Int) := by omega
  go_enter Tryz.func126, Tryz.ntmps126
  go_wp2_with fail
  go_ret2
  exact ⟨rfl, rfl⟩
/-- An append whose run is known, as a step of a region that draws. -/
theorem step_append_run {P : Program} {ops : Array Oper} {o : Oper} {a : Act} {w w' : World} {v : Value} {K : Act → World → Prop} {Q : Exit → Act → World → Prop} {E : Prop} (hg : o.guard = none) (s x : Operand) (t : TypeId)
    (hop : o.op = Op.call { callee := Callee.builtin Builtin.append, args := #[s, x], argTypes := #[t, t] }) (p q : Value) (hs : a.eval s = p) (hx : a.eval x = q) (hrun : (Builtin.append_ #[t, t] o.type #[p, q]).run P w = .ok v w') (hK : K (a.put o.dst v) w') :
    if Region.wanted o (yielded ops a.tmps) = true then Oper.wp P o a w K Q else E := by
  have hw : Region.wanted o (yielded ops a.tmps) = true := by simp [Region.wanted, hg]
  rw [if_pos hw]
  unfold Oper.wp
  simp [execOp, hop, resolve, invoke, builtin, hs, hx, hrun, Result.andThen, Oper.upon]
  exact hK
theorem drew_grown_ {a w : World} {row : Option Nat} (h : a.drew.grownBy w row) : a.grownBy w row := ⟨h.os, h.tape, h.output, h.size, h.block⟩
set_option maxRecDepth 100000 in
set_option maxHeartbeats 2000000 in
theorem push_some (a o b off pb n cap : Nat) (stk : List Int) (x : Int) (w : World) (hS : w.cell? ⟨a, o, none⟩ = some (.slice (some ⟨b, off, none⟩) n cap)) (hf : w.frozen? ⟨a, o, none⟩ = false) (hn : n = stk.length) (hnc : n ≤ cap) (hn2 : n ≤ 1000)
    (hh : HoldsI w (some ⟨b, off, none⟩) stk) (hx : w.cell? ⟨pb, 0, none⟩ = some (.int .i64 x)) :
    Calls Tryz.prog 125 #[.pointer (some ⟨a, o, none⟩), .slice (some ⟨pb, 0, none⟩) 1 1] w fun r w' => r = .returned (.tuple #[]) ∧
      ∃ W1 v, w.grownBy W1 none ∧ W1.ownsRow w.heap.size 3 1 v (n + 1) (intCells (stk ++ [x])) ∧ w' = W1.setCell ⟨a, o, none⟩ v := by
  subst hn
  obtain ⟨i0, hi0, hz0, hz1, hz2⟩ := info_parts infoInt
  have hold : ∀ (j : Nat) (u : Value), (intCells stk)[j]? = some u → w.drew.cell? ((⟨b, off, none⟩ : Addr).add j) = some u := fun j u hj => by
    simp only [intCells, List.getElem?_map, Option.map_eq_some_iff] at hj
    obtain ⟨y, hy, rfl⟩ := hj
    obtain ⟨b', off', e, c⟩ := hh j y hy
    cases e
    rw [Addr.add_lit]
    exact c
  have hnew : ∀ (j : Nat) (u : Value), ([Value.int .i64 x])[j]? = some u → w.drew.cell? ((⟨pb, 0, none⟩ : Addr).add j) = some u := fun j u hj => by
    cases j with
    | zero => simp at hj; subst hj; exact hx
    | succ j => simp at hj
  obtain ⟨v, W1, hrun, hown, hgr⟩ := run_append_arg_grows (P := Tryz.prog) (w := w.drew) 47 47 3 i0 (.int .i64 0) 1 8 Tryz.underlying47 hi0 hz0 hz1 hz2 rfl (by decide)
    ⟨b, off, none⟩ stk.length stk.length (intCells stk) (by rw [intCells_length]; omega) hold ⟨pb, 0, none⟩ 1 1 [.int .i64 x] rfl hnew (by omega) (by unfold maxLen; omega) (by omega)
  have G := Lib.hid (drew_grown_ hgr)
  have O : Hid (W1.ownsRow w.heap.size 3 1 v (stk.length + 1) (intCells (stk ++ [x]))) := Lib.hid (by rw [intCells_append]; exact hown)
  have hSW : W1.cell? ⟨a, o, none⟩ = some (.slice (some ⟨b, off, none⟩) stk.length cap) := (G.out.cell_far _ (cell_lt hS) (by simp)).trans hS
  have hfW : W1.frozen? ⟨a, o, none⟩ = false := by
    rw [World.frozen?_of_block (G.out.block a (cell_lt hS) (by simp))]
    exact hf
  obtain ⟨A', c', rfl⟩ := owns_slice O.out
  clear hgr hown hold hnew
  have q0 : (0 : Int) ≤ (stk.length : Int) := by omega
  have q1 : (stk.length : Int) ≤ (cap : Int) := by omega
  go_enter Tryz.func125, Tryz.ntmps125
  go_wp2_with fail
  go_region_law (refine step_append_run rfl (.tmp 19) (.tmp 20) 47 rfl _ _ (by simp [Act.eval, Act.put]) (by simp [Act.eval, Act.put]) hrun ?_)
  all_goals go_wp2_with fail
  all_goals go_end0
  all_goals exact ⟨rfl, W1, _, G.out, O.out, rfl⟩
set_option maxRecDepth 100000 in
set_option maxHeartbeats 2000000 in
theorem push_nil (a o pb : Nat) (x : Int) (w : World) (hS : w.cell? ⟨a, o, none⟩ = some (.slice none 0 0)) (hf : w.frozen? ⟨a, o, none⟩ = false) (hx : w.cell? ⟨pb, 0, none⟩ = some (.int .i64 x)) :
    Calls Tryz.prog 125 #[.pointer (some ⟨a, o, none⟩), .slice (some ⟨pb, 0, none⟩) 1 1] w fun r w' => r = .returned (.tuple #[]) ∧
      ∃ W1 v, w.grownBy W1 none ∧ W1.ownsRow w.heap.size 3 1 v 1 (intCells [x]) ∧ w' = W1.setCell ⟨a, o, none⟩ v := by
  obtain ⟨i0, hi0, hz0, hz1, hz2⟩ := info_parts infoInt
  have hnew : ∀ (j : Nat) (u : Value), ([Value.int .i64 x])[j]? = some u → w.drew.cell? ((⟨pb, 0, none⟩ : Addr).add j) = some u := fun j u hj => by
    cases j with
    | zero => simp at hj; subst hj; exact hx
    | succ j => simp at hj
  obtain ⟨v, W1, hrun, hown, hgr, _⟩ := run_append_own (P := Tryz.prog) w.drew w.heap.size 47 47 3 i0 (.int .i64 0) 1 8 Tryz.underlying47 hi0 hz0 hz1 hz2 rfl (by decide) (.slice none 0 0) 0 [] (World.ownsRow_nil _ _ _ _)
    ⟨pb, 0, none⟩ 1 1 [.int .i64 x] rfl hnew (by simp [Value.oneCell']) (by unfold maxLen; omega) (by omega) (Nat.le_refl _)
  replace hgr : w.drew.grownBy W1 none := hgr
  have G := Lib.hid (drew_grown_ hgr)
  have O : Hid (W1.ownsRow w.heap.size 3 1 v 1 (intCells [x])) := Lib.hid hown
  have hSW : W1.cell? ⟨a, o, none⟩ = some (.slice none 0 0) := (G.out.cell_far _ (cell_lt hS) (by simp)).trans hS
  have hfW : W1.frozen? ⟨a, o, none⟩ = false := by
    rw [World.frozen?_of_block (G.out.block a (cell_lt hS) (by simp))]
    exact hf
  obtain ⟨A', c', rfl⟩ := owns_slice O.out
  clear hgr hown hnew
  go_enter Tryz.func125, Tryz.ntmps125
  go_wp2_with fail
  go_region_law (refine step_append_run rfl (.tmp 19) (.tmp 20) 47 rfl _ _ (by simp [Act.eval, Act.put]) (by simp [Act.eval, Act.put]) hrun ?_)
  all_goals go_wp2_with fail
  all_goals go_end0
  all_goals exact ⟨rfl, W1, _, G.out, O.out, rfl⟩
end Go.Proofs.YtebejlnegalokaaGreatDoor.Gz
