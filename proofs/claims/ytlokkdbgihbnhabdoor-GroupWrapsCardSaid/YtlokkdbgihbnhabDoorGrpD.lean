/-
  The stack: push, pop; what is told of what is wrong.
-/
import Derived.Test.YtlokkdbgihbnhabDoorProg
import Derived.Test.YtlokkdbgihbnhabDoorReg
import Derived.WalkKit
import Derived.WalkSpells
import Derived.WalkLawsBesides
import Derived.Lib.Hide
import Derived.Lib.MinMax
import Derived.Deep.QuietTactic
import Derived.BigQuiet
import Derived.OwnWalk
import Derived.Deep.AppendLies
import Derived.KernelRfl
import Derived.ArgAppend
import Derived.Laws.Rows
import Derived.Deep.RegionLaw
import Derived.Test.YtlokkdbgihbnhabDoorGrpC
import Derived.Test.YtlokkdbgihbnhabDoorGrpE
set_option linter.unusedSimpArgs false
set_option linter.unusedVariables false
namespace Go.Proofs.YtlokkdbgihbnhabDoor
open Go.RowKit

theorem infoInt : (Tryd.prog.info? 3).map (fun i => (i.zero, i.size, i.bytes)) = some (some (.int .i64 0), 1, 8) := by kernel_rfl

set_option maxRecDepth 100000 in
set_option maxHeartbeats 2000000 in
theorem told_any (c p : Int) (e : Value) (he : e.oneCell' = true) (w : World) (hg : w.cell? ⟨1, 0, none⟩ = some (.iface 96 (.agg #[.pointer (some ⟨2, 47, none⟩)]))) :
    Calls Tryd.prog 15 #[.iface 59 (.agg #[.int .i64 c, .int .i64 p, e])] w fun r w' => r = .returned (.int .i64 c) ∧ Below w.heap.size w w' := by
  have H := Lib.hid (fun (o0 o1 o2 : Value) => as_hit c p e he w.heap.size o0 o1 o2 (w.alloc (.cells #[o0, o1, o2] 59)) ((World.cell?_alloc_lt _ _ _ (cell_lt hg)).trans hg) (heap_alloc_new w _))
  clear hg
  go_enter Tryd.func15, Tryd.ntmps15
  go_wp2_with fail
  refine (H.out _ _ _).mono ?_
  rintro r w' ⟨rfl, hw⟩
  have hb : Below w.heap.size w w' := by
    subst hw
    have hb0 := ((((((Below.refl _ w).alloc (Nat.le_refl _) (.cells #[.int .i64 0, .int .i64 0, .nilIface] 59)).alloc (by simp) (.cells #[.pointer (some ⟨w.heap.size, 0, none⟩)] 61)).alloc (by simp; omega) (.cells #[.pointer (some ⟨2, 61, none⟩), .pointer (some ⟨w.heap.size + 1, 0, none⟩), .int .u64 150] 78)).alloc (by simp; omega) (.cells #[.pointer (some ⟨2, 61, none⟩), .pointer (some ⟨w.heap.size + 1, 0, none⟩), .int .u64 150] 78)).alloc (by simp; omega) (.cells #[.int .i64 c, .int .i64 p, e] 59))
    simp only [World.size_alloc]
    exact hb0.grown (grownBy_setRow _ _ _) (by simp; omega) (fun k hk => by cases hk; exact Nat.le_refl _)
  have hc : w'.cell? ⟨w.heap.size, 0, none⟩ = some (.int .i64 c) := by
    subst hw
    have h0 : ((((((w.alloc (.cells #[.int .i64 0, .int .i64 0, .nilIface] 59)).alloc (.cells #[.pointer (some ⟨w.heap.size, 0, none⟩)] 61)).alloc (.cells #[.pointer (some ⟨2, 61, none⟩), .pointer (some ⟨w.heap.size + 1, 0, none⟩), .int .u64 150] 78)).alloc (.cells #[.pointer (some ⟨2, 61, none⟩), .pointer (some ⟨w.heap.size + 1, 0, none⟩), .int .u64 150] 78)).alloc (.cells #[.int .i64 c, .int .i64 p, e] 59))).heap[w.heap.size]? = some (.cells #[.int .i64 0, .int .i64 0, .nilIface] 59 (0, 0)) := by
      have hb0 := (((((Below.refl _ (w.alloc (.cells #[.int .i64 0, .int .i64 0, .nilIface] 59))).alloc (Nat.le_refl _) (.cells #[.pointer (some ⟨w.heap.size, 0, none⟩)] 61)).alloc (by simp) (.cells #[.pointer (some ⟨2, 61, none⟩), .pointer (some ⟨w.heap.size + 1, 0, none⟩), .int .u64 150] 78)).alloc (by simp) (.cells #[.pointer (some ⟨2, 61, none⟩), .pointer (some ⟨w.heap.size + 1, 0, none⟩), .int .u64 150] 78)).alloc (by simp) (.cells #[.int .i64 c, .int .i64 p, e] 59))
      exact (hb0.block _ (by simp)).trans (heap_alloc_new w _)
    simp only [World.size_alloc]
    have h1 := setRow_heap _ _ _ #[.int .i64 c, .int .i64 p, e] _ _ h0
    simp [World.cell?, h1]
  clear hw
  go_wp2_with fail
  go_ret
  exact ⟨rfl, hb⟩

set_option maxRecDepth 100000 in
set_option maxHeartbeats 2000000 in
theorem pop_no (a o cap : Nat) (A : Option Addr) (w : World) (hS : w.cell? ⟨a, o, none⟩ = some (.slice A 0 cap)) :
    Calls Tryd.prog 35 #[.pointer (some ⟨a, o, none⟩)] w fun r w' => r = .returned (.tuple #[.int .i64 0, .bool false]) ∧ w' = w := by
  go_enter Tryd.func35, Tryd.ntmps35
  go_wp2_with fail
  go_ret2
  exact ⟨rfl, rfl⟩

set_option maxRecDepth 100000 in
set_option maxHeartbeats 2000000 in
theorem pop_yes (a o b off n cap : Nat) (x : Int) (w : World) (hS : w.cell? ⟨a, o, none⟩ = some (.slice (some ⟨b, off, none⟩) (n + 1) cap)) (hf : w.frozen? ⟨a, o, none⟩ = false) (hn : n + 1 ≤ cap) (hn2 : n ≤ 1000) (hx : w.cell? ⟨b, off + n, none⟩ = some (.int .i64 x)) :
    Calls Tryd.prog 35 #[.pointer (some ⟨a, o, none⟩)] w fun r w' => r = .returned (.tuple #[.int .i64 x, .bool true]) ∧ w' = w.setCell ⟨a, o, none⟩ (.slice (some ⟨b, off, none⟩) n cap) := by
  have e1 : IntKind.i64.wrap (((n + 1 : Nat) : Int) - 1) = (n : Int) := by rw [IntWalk.i64_in] <;> omega
  have q0 : (0 : Int) ≤ (n : Int) := by omega
  have q1 : ((n + 1 : Nat) : Int) - 1 = (n : Int) := by omega
  go_enter Tryd.func35, Tryd.ntmps35
  go_wp2_with fail
  go_ret2
  exact ⟨rfl, rfl⟩

/-- An append whose run is known, as a step of a region that draws. -/
theorem step_append_run {P : Program} {ops : Array Oper} {o : Oper} {a : Act} {w w' : World} {v : Value} {K : Act → World → Prop} {Q : Exit → Act → World → Prop} {E : Prop} (hg : o.guard = none) (s x : Operand) (t : TypeId)
    (hop : o.op = Op.call { callee := Callee.builtin Builtin.append, args := #[s, x], argTypes := #[t, t] }) (p q : Value) (hs : a.eval s = p) (hx : a.eval x = q) (hrun : (Builtin.append_ #[t, t] o.type #[p, q]).run P w = .ok v w') (hK : K (a.put o.dst v) w') :
    if Region.wanted o (yielded ops a.tmps) = true then Oper.wp P o a w K Q else E := by
  have hw : Region.wanted o (yielded ops a.tmps) = true := by simp [Region.wanted, hg]
  rw [if_pos hw]
  unfold Oper.wp
  simp [execOp, hop, resolve, invoke, builtin, hs, hx, hrun, Result.andThen, Oper.upon]
  exact hK

theorem grown_drew_ {a w : World} {row : Option Nat} (h : a.grownBy w row) : a.grownBy w.drew row := ⟨h.os, h.tape, h.output, h.size, h.block⟩
theorem drew_grown_ {a w : World} {row : Option Nat} (h : a.drew.grownBy w row) : a.grownBy w row := ⟨h.os, h.tape, h.output, h.size, h.block⟩

set_option maxRecDepth 100000 in
set_option maxHeartbeats 2000000 in
theorem push_some (a o b off pb n cap : Nat) (stk : List Int) (x : Int) (w : World) (hS : w.cell? ⟨a, o, none⟩ = some (.slice (some ⟨b, off, none⟩) n cap)) (hf : w.frozen? ⟨a, o, none⟩ = false) (hn : n = stk.length) (hnc : n ≤ cap) (hn2 : n ≤ 1000)
    (hh : HoldsI w (some ⟨b, off, none⟩) stk) (hx : w.cell? ⟨pb, 0, none⟩ = some (.int .i64 x)) :
    Calls Tryd.prog 34 #[.pointer (some ⟨a, o, none⟩), .slice (some ⟨pb, 0, none⟩) 1 1] w fun r w' => r = .returned (.tuple #[]) ∧
      ∃ W1 v, w.grownBy W1 none ∧ W1.ownsRow w.heap.size 3 1 v (n + 1) (intCells (stk ++ [x])) ∧ w' = W1.setCell ⟨a, o, none⟩ v := by
  subst hn
  obtain ⟨i0, hi0, hz0, hz1, hz2⟩ := info_parts infoInt
  have hold : ∀ (j : Nat) (u : Value), (intCells stk)[j]? = some u → w.drew.cell? ((⟨b, off, none⟩ : Addr).add j) = some u := fun j u hj => by
    simp only [intCells, List.getElem?_map, Option.map_eq_some_iff] at hj
    obtain ⟨y, hy, rfl⟩ := hj
    obtain ⟨b', off', e, c⟩ := hh j y hy
    cases e
    rw [Addr.add_lit]
    exact c
  have hnew : ∀ (j : Nat) (u : Value), ([Value.int .i64 x])[j]? = some u → w.drew.cell? ((⟨pb, 0, none⟩ : Addr).add j) = some u := fun j u hj => by
    cases j with
    | zero => simp at hj; subst hj; exact hx
    | succ j => simp at hj
  obtain ⟨v, W1, hrun, hown, hgr⟩ := run_append_arg_grows (P := Tryd.prog) (w := w.drew) 25 25 3 i0 (.int .i64 0) 1 8 Tryd.underlying25 hi0 hz0 hz1 hz2 rfl (by decide)
    ⟨b, off, none⟩ stk.length stk.length (intCells stk) (by rw [intCells_length]; omega) hold ⟨pb, 0, none⟩ 1 1 [.int .i64 x] rfl hnew (by omega) (by unfold maxLen; omega) (by omega)
  have G := Lib.hid (drew_grown_ hgr)
  have O : Hid (W1.ownsRow w.heap.size 3 1 v (stk.length + 1) (intCells (stk ++ [x]))) := Lib.hid (by rw [intCells_append]; exact hown)
  have hSW : W1.cell? ⟨a, o, none⟩ = some (.slice (some ⟨b, off, none⟩) stk.length cap) := (G.out.cell_far _ (cell_lt hS) (by simp)).trans hS
  have hfW : W1.frozen? ⟨a, o, none⟩ = false := by
    rw [World.frozen?_of_block (G.out.block a (cell_lt hS) (by simp))]
    exact hf
  obtain ⟨A', c', rfl⟩ := owns_slice O.out
  clear hgr hown hold hnew
  have q0 : (0 : Int) ≤ (stk.length : Int) := by omega
  have q1 : (stk.length : Int) ≤ (cap : Int) := by omega
  go_enter Tryd.func34, Tryd.ntmps34
  go_wp2_with fail
  go_region_law (refine step_append_run rfl (.tmp 19) (.tmp 20) 25 rfl _ _ (by simp [Act.eval, Act.put]) (by simp [Act.eval, Act.put]) hrun ?_)
  all_goals go_wp2_with fail
  all_goals go_end0
  all_goals exact ⟨rfl, W1, _, G.out, O.out, rfl⟩
set_option maxRecDepth 100000 in
set_option maxHeartbeats 2000000 in
theorem push_nil (a o pb : Nat) (x : Int) (w : World) (hS : w.cell? ⟨a, o, none⟩ = some (.slice none 0 0)) (hf : w.frozen? ⟨a, o, none⟩ = false) (hx : w.cell? ⟨pb, 0, none⟩ = some (.int .i64 x)) :
    Calls Tryd.prog 34 #[.pointer (some ⟨a, o, none⟩), .slice (some ⟨pb, 0, none⟩) 1 1] w fun r w' => r = .returned (.tuple #[]) ∧
      ∃ W1 v, w.grownBy W1 none ∧ W1.ownsRow w.heap.size 3 1 v 1 (intCells [x]) ∧ w' = W1.setCell ⟨a, o, none⟩ v := by
  obtain ⟨i0, hi0, hz0, hz1, hz2⟩ := info_parts infoInt
  have hnew : ∀ (j : Nat) (u : Value), ([Value.int .i64 x])[j]? = some u → w.drew.cell? ((⟨pb, 0, none⟩ : Addr).add j) = some u := fun j u hj => by
    cases j with
    | zero => simp at hj; subst hj; exact hx
    | succ j => simp at hj
  obtain ⟨v, W1, hrun, hown, hgr, _⟩ := run_append_own (P := Tryd.prog) w.drew w.heap.size 25 25 3 i0 (.int .i64 0) 1 8 Tryd.underlying25 hi0 hz0 hz1 hz2 rfl (by decide) (.slice none 0 0) 0 [] (World.ownsRow_nil _ _ _ _)
    ⟨pb, 0, none⟩ 1 1 [.int .i64 x] rfl hnew (by simp [Value.oneCell']) (by unfold maxLen; omega) (by omega) (Nat.le_refl _)
  replace hgr : w.drew.grownBy W1 none := hgr
  have G := Lib.hid (drew_grown_ hgr)
  have O : Hid (W1.ownsRow w.heap.size 3 1 v 1 (intCells [x])) := Lib.hid hown
  have hSW : W1.cell? ⟨a, o, none⟩ = some (.slice none 0 0) := (G.out.cell_far _ (cell_lt hS) (by simp)).trans hS
  have hfW : W1.frozen? ⟨a, o, none⟩ = false := by
    rw [World.frozen?_of_block (G.out.block a (cell_lt hS) (by simp))]
    exact hf
  obtain ⟨A', c', rfl⟩ := owns_slice O.out
  clear hgr hown hnew
  go_enter Tryd.func34, Tryd.ntmps34
  go_wp2_with fail
  go_region_law (refine step_append_run rfl (.tmp 19) (.tmp 20) 25 rfl _ _ (by simp [Act.eval, Act.put]) (by simp [Act.eval, Act.put]) hrun ?_)
  all_goals go_wp2_with fail
  all_goals go_end0
  all_goals exact ⟨rfl, W1, _, G.out, O.out, rfl⟩
end Go.Proofs.YtlokkdbgihbnhabDoor
