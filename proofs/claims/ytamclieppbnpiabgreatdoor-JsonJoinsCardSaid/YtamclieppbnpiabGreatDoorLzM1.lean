/-
  XLxP, turned: what this seat needs of it.
-/
import Derived.Test.YtamclieppbnpiabGreatDoorProg
import Derived.Test.YtamclieppbnpiabGreatDoorReg
import Derived.WalkKit
import Derived.WalkSpells
import Derived.WalkLawsBesides
import Derived.Lib.Hide
import Derived.Lib.MinMax
import Derived.Deep.QuietTactic
import Derived.BigQuiet
import Derived.OwnWalk
import Derived.Deep.AppendLies
import Derived.KernelRfl
import Derived.Test.YtamclieppbnpiabGreatDoorReg
import Derived.WalkKit
import Derived.Test.YtamclieppbnpiabGreatDoorJsLay
import Derived.Lib.TrimU
import Derived.Lib.QuoteLoop
import Derived.Below
import Derived.Laws.OwnMore
import Derived.Deep.Draws
import Derived.Deep.AppendLies
import Derived.Shelf.Strings.BuilderF
import Derived.Lib.FrozenHead2
import Derived.Deep.OwnRows
import Derived.Maps.AppendAt
import Derived.Deep.RegionWith
import Derived.Test.YtamclieppbnpiabGreatDoorMap
import Derived.Test.YtamclieppbnpiabGreatDoorRegZ
import Derived.Laws.RangeAny
import Derived.Shelf.Abstract
import Derived.Maps.OwnSet
import Derived.OneCell
import Derived.Laws.Rows
import Derived.Laws.MakeOwn
set_option linter.unusedSimpArgs false
set_option linter.unusedVariables false
namespace Go.Proofs.YtamclieppbnpiabGreatDoor.Lz
open Go.RowKit
theorem bytes_app (a b : ByteArray) : (a ++ b).data.toList = a.data.toList ++ b.data.toList := by
  rw [ByteArray.data_append]; exact Array.toList_append
theorem bytes_ext (s : ByteArray) (a b : Nat) : (s.extract a b).data.toList = (s.data.toList.drop a).take (b - a) := by
  rw [ByteArray.data_extract]
  simp [List.extract_eq_take_drop]
theorem bytes_eq {a b : ByteArray} (h : a.data.toList = b.data.toList) : a = b := by
  obtain ⟨⟨x⟩⟩ := a; obtain ⟨⟨y⟩⟩ := b; simp at h; rw [h]
theorem bytes_len (s : ByteArray) : s.data.toList.length = s.size := rfl
theorem empty_is {u : ByteArray} (h : u.size = 0) : u.toList.isEmpty = true := by
  rw [ByteArray.toList_eq]
  have : u.data.toList.length = 0 := by rw [bytes_len]; exact h
  rw [List.length_eq_zero_iff.1 this]
  rfl
theorem empty_not {u : ByteArray} (h : 0 < u.size) : u.toList.isEmpty = false := by
  rw [ByteArray.toList_eq]
  have : u.data.toList.length = u.size := bytes_len u
  cases hl : u.data.toList with
  | nil => rw [hl] at this; simp at this; omega
  | cons a l => rfl
end Go.Proofs.YtamclieppbnpiabGreatDoor.Lz
/-
  XLxT, turned: what this seat needs of it.
-/
namespace Go.Proofs.YtamclieppbnpiabGreatDoor.Lz
open Go.RowKit
theorem cell_lt {w : World} {p : Addr} {v : Value} (h : w.cell? p = some v) : p.block < w.heap.size := by
  rcases Nat.lt_or_ge p.block w.heap.size with h1 | h1
  · exact h1
  · simp [World.cell?, Array.getElem?_eq_none h1] at h
theorem below_drewN {B : Nat} {a w : World} (h : Below B a w) (n : Nat) : Below B a (w.drewN n) := ⟨h.os, h.tape, h.output, h.size, h.block⟩
theorem ownBlock_ge {w : World} {base : Nat} {e : TypeId} {size : Nat} {v : Value} {n : Nat} {xs : List Value} (h : w.ownsRow base e size v n xs) : ∀ k, v.ownBlock = some k → base ≤ k := by
  intro k hk
  rcases h.2 with ⟨rfl, _⟩ | ⟨g, cap, cur, rfl, hg, _⟩
  · simp [Value.ownBlock] at hk
  · simp [Value.ownBlock] at hk
    omega
theorem ownBlock_lt {w : World} {base : Nat} {e : TypeId} {size : Nat} {v : Value} {n : Nat} {xs : List Value} (h : w.ownsRow base e size v n xs) : ∀ k, v.ownBlock = some k → k < w.heap.size := by
  intro k hk
  rcases h.2 with ⟨rfl, _⟩ | ⟨g, cap, cur, rfl, hg, hh, _⟩
  · simp [Value.ownBlock] at hk
  · simp [Value.ownBlock] at hk
    subst hk
    rcases Nat.lt_or_ge g w.heap.size with h1 | h1
    · exact h1
    · rw [Array.getElem?_eq_none h1] at hh; cases hh
end Go.Proofs.YtamclieppbnpiabGreatDoor.Lz
/-
  XNdBu, turned: what this seat needs of it.
-/
namespace Go.Proofs.YtamclieppbnpiabGreatDoor.Lz
open Go.RowKit Go.Shelf
abbrev tB : TypeId := 73
abbrev tU : TypeId := 5
theorem sizeBu : (Tryz.prog.info? 73).map (·.size) = some 2 := Lay_Builder_Extra_169.sizeBuilder
theorem infoBy : (Tryz.prog.info? 5).map (fun i => (i.zero, i.size, i.bytes)) = some (some (.int .u8 0), 1, 1) := by kernel_rfl
set_option maxRecDepth 100000 in
set_option maxHeartbeats 1000000 in
theorem copyCheck_fresh (b : Nat) (w : World) (h0 : w.cell? ⟨b, 0, none⟩ = some (.pointer none)) (hsh : w.shape? b = some (tB, 2)) (hfz : w.frozen? ⟨b, 0, none⟩ = false) :
    Calls Tryz.prog 51 #[.pointer (some ⟨b, 0, none⟩)] w fun e w' => e = .returned (.tuple #[]) ∧ w' = w.setCell ⟨b, 0, none⟩ (.pointer (some ⟨b, 0, none⟩)) := by
  obtain ⟨j, hj, hjs⟩ := Option.map_eq_some_iff.1 sizeBu
  have h1 := Lib.run_to_unsafe (P := Tryz.prog) w ⟨b, 0, none⟩ Tryz.underlying70 Tryz.underlying87 hj (by rw [hjs]; decide) hsh (Nat.zero_lt_succ 1)
  have h2 := Lib.run_from_unsafe (P := Tryz.prog) w ⟨b, 0, none⟩ Tryz.underlying87 Tryz.underlying70 hj hsh Lay_Builder_Extra_169.liesBuilder
  go_enter Tryz.func51, Tryz.ntmps51
  go_wp2
  rw [run_callFunc_extern Tryz.func72 (by kernel_rfl) (by kernel_rfl) (by kernel_rfl) (e := Extern.AbiNoEscape.same) (by kernel_rfl)]
  rw [Lib.run_noEscape]
  simp only [Result.andThen]
  rw [Oper.upon_value]
  go_wp2
  go_end0
  exact ⟨rfl, rfl⟩
set_option maxRecDepth 100000 in
set_option maxHeartbeats 1000000 in
theorem copyCheck_used (b : Nat) (w : World) (h0 : w.cell? ⟨b, 0, none⟩ = some (.pointer (some ⟨b, 0, none⟩))) :
    Calls Tryz.prog 51 #[.pointer (some ⟨b, 0, none⟩)] w fun e w' => e = .returned (.tuple #[]) ∧ w' = w := by
  obtain ⟨j, hj, _⟩ := Option.map_eq_some_iff.1 sizeBu
  go_enter Tryz.func51, Tryz.ntmps51
  go_wp2
  rw [Lib.run_neq_ptr_same w _ Tryz.underlying70 hj]
  go_wp2
  go_end0
  exact ⟨rfl, rfl⟩
/-- A row of bytes that a conversion has made: marked behind its end. -/
def Marked (w : World) (k : Nat) (cs : Array Value) : Prop := w.heap[k]? = some (.cells cs tU (cs.size, cs.size + 1))
theorem marked_free {w : World} {k : Nat} {cs : Array Value} {B : Nat} {v : Value} {n : Nat} {xs : List Value} (hk : Marked w k cs) (h : w.ownsRowF B tU 1 v n xs) : v.ownBlock ≠ some k := by
  intro hv
  rcases h.2 with ⟨rfl, _⟩ | ⟨g, cap, cur, fz, rfl, _, hg, hfz, hnc, hcm, hcs, _⟩
  · simp [Value.ownBlock] at hv
  · simp [Value.ownBlock] at hv
    subst hv
    unfold Marked at hk
    rw [hk] at hg
    cases hg
    simp at hfz
    omega
theorem copyCheck_any (B b : Nat) (bs : List Value) (w : World) (h : Lib.IsBuilderF tB tU B b bs w) :
    Calls Tryz.prog 51 #[.pointer (some ⟨b, 0, none⟩)] w fun e w' => e = .returned (.tuple #[]) ∧ Lib.BuilderAtF tB tU B b (.pointer (some ⟨b, 0, none⟩)) bs w' ∧ Below B w w' ∧ ∀ k cs, Marked w k cs → Marked w' k cs := by
  have hne : ∀ k cs, Marked w k cs → k ≠ b := fun k cs hk e => by
    have hb : ∃ cs' : Array Value, w.heap[b]? = some (.cells cs' tB (0, 0)) := by
      rcases h with ⟨_, v, h, _⟩ | ⟨_, v, h, _⟩ <;> exact ⟨_, h⟩
    obtain ⟨cs', h1⟩ := hb
    subst e
    unfold Marked at hk
    rw [hk] at h1
    simp only [Option.some.injEq, Obj.cells.injEq] at h1
    exact absurd h1.2.1 (by decide)
  rcases h with h | h
  · refine (copyCheck_fresh b w h.cell0 h.shape h.frozen0).mono ?_
    rintro e w' ⟨rfl, rfl⟩
    exact ⟨rfl, h.used _, (Below.refl B w).setCell (p := ⟨b, 0, none⟩) h.1 _, fun k cs hk => (Below.heap_setCell w ⟨b, 0, none⟩ _ k (hne k cs hk)).trans hk⟩
  · refine (copyCheck_used b w h.cell0).mono ?_
    rintro e w' ⟨rfl, rfl⟩
    exact ⟨rfl, h, Below.refl B _, fun k cs hk => hk⟩
set_option maxHeartbeats 2000000 in
set_option maxRecDepth 100000 in
theorem writeByte_any (B b : Nat) (bs : List Value) (c : Int) (w : World) (h : Lib.IsBuilderF tB tU B b bs w) (hlen : bs.length + 1 ≤ 140737488355328) (hBw : B ≤ w.heap.size) :
    Calls Tryz.prog 30 #[.pointer (some ⟨b, 0, none⟩), .int .u8 c] w fun e w' => e = .returned .nilIface ∧ Lib.BuilderAtF tB tU B b (.pointer (some ⟨b, 0, none⟩)) (bs ++ [.int .u8 c]) w' ∧ Below B w w' ∧ ∀ k cs, Marked w k cs → Marked w' k cs := by
  obtain ⟨i0, hi, hz0, hz1, hz2⟩ := info_parts infoBy
  go_enter Tryz.func30, Tryz.ntmps30
  go_wp2_with fail
  refine (copyCheck_any B b bs _ h).mono ?_
  rintro e w1 ⟨rfl, h1, hb1, hm1⟩
  obtain ⟨hB, v, hbk, hown, hne⟩ := h1
  have c0 : w1.cell? ⟨b, 0, none⟩ = some (.pointer (some ⟨b, 0, none⟩)) := by rw [Lib.cell_of_heap hbk]; rfl
  have c1 : w1.cell? ⟨b, 1, none⟩ = some v := by rw [Lib.cell_of_heap hbk]; rfl
  go_wp2_with (at_builtin; refine wpList_append_ownF _ rfl _ _ 71 rfl B tU i0 (.int .u8 0) 1 1 Tryz.underlying71 hi hz0 hz1 hz2 rfl (by decide) _ _ _ rfl (hown.alloc _) ⟨w1.heap.size, 0, none⟩ 1 1 [.int .u8 c] rfl rfl ?c1 ?c2 ?c3 ?c4 ?c5 ?_)
  case c1 =>
    intro j u hj
    match j, hj with
    | 0, hj => simp at hj; subst hj; simp [Addr.add]
  case c2 => intro u hu; simp at hu; subst hu; rfl
  case c3 => unfold maxLen; omega
  case c4 => omega
  case c5 => have := hb1.size; simp; omega
  intro v' w2 hown' hgrow _
  have hlt : b < w1.heap.size := by
    rcases Nat.lt_or_ge b w1.heap.size with h' | h'
    · exact h'
    · simp [Array.getElem?_eq_none h'] at hbk
  have hb2 : w2.heap[b]? = some (.cells #[.pointer (some ⟨b, 0, none⟩), v] tB (0, 0)) := by
    rw [hgrow.block b (by simp; omega) (fun e => hne e.symm), Lib.alloc_old w1 _ b hlt]
    exact hbk
  have hnb : ∀ k cs, Marked w1 k cs → k ≠ b := fun k cs hk e => by
    subst e
    unfold Marked at hk
    rw [hk] at hbk
    simp only [Option.some.injEq, Obj.cells.injEq] at hbk
    exact absurd hbk.2.1 (by decide)
  have HM : Hid (∀ k cs, Marked w k cs → ∀ u, Marked (w2.setCell ⟨b, 1, none⟩ u) k cs) := Lib.hid (fun k cs hk u => (Below.heap_setCell w2 ⟨b, 1, none⟩ u k (hnb k cs (hm1 k cs hk))).trans ((hgrow.block k (by simp; have := (Array.getElem?_eq_some_iff.1 (hm1 k cs hk)).1; omega) (fun e => marked_free (hm1 k cs hk) hown e.symm)).trans ((Lib.alloc_old w1 _ k (Array.getElem?_eq_some_iff.1 (hm1 k cs hk)).1).trans (hm1 k cs hk))))
  clear hm1 hnb
  have d0 : w2.cell? ⟨b, 0, none⟩ = some (.pointer (some ⟨b, 0, none⟩)) := by rw [Lib.cell_of_heap hb2]; rfl
  have d1 : w2.cell? ⟨b, 1, none⟩ = some v := by rw [Lib.cell_of_heap hb2]; rfl
  have f1 : w2.frozen? ⟨b, 1, none⟩ = false := Lib.frozen_of_heap hb2 1
  obtain ⟨g, cap, rfl⟩ : ∃ g cap, v' = .slice (some ⟨g, 0, none⟩) (bs.length + 1) cap := by
    rcases hown'.2 with ⟨_, h0⟩ | ⟨g, cap, cur, fz, hv, _⟩
    · omega
    · exact ⟨g, cap, hv⟩
  go_wp2
  go_ret
  refine ⟨rfl, ?_, ?_, fun k cs hk => HM.out k cs hk _⟩
  · exact Lib.BuilderAtF.put (T := tB) (e := tU) hB hb2 (bs' := bs ++ [.int .u8 c]) (by simpa using hown') (by decide)
  · exact ((hb1.alloc (by have := hb1.size; omega) _).grown hgrow (by have := hb1.size; simp; omega) (fun k hk => (hown.lt k hk).1)).setCell (p := ⟨b, 1, none⟩) hB _
set_option maxHeartbeats 2000000 in
set_option maxRecDepth 100000 in
theorem writeString_any (B b : Nat) (bs : List Value) (s : ByteArray) (w : World) (h : Lib.IsBuilderF tB tU B b bs w) (hlen : bs.length + s.size ≤ 140737488355328) (hBw : B ≤ w.heap.size) :
    Calls Tryz.prog 31 #[.pointer (some ⟨b, 0, none⟩), .string s] w fun e w' => e = .returned (.tuple #[.int .i64 s.size, .nilIface]) ∧ Lib.BuilderAtF tB tU B b (.pointer (some ⟨b, 0, none⟩)) (bs ++ Lib.strCells s) w' ∧ Below B w w' ∧ ∀ k cs, Marked w k cs → Marked w' k cs := by
  obtain ⟨i0, hi, hz0, hz1, hz2⟩ := info_parts infoBy
  go_enter Tryz.func31, Tryz.ntmps31
  go_wp2_with fail
  refine (copyCheck_any B b bs _ h).mono ?_
  rintro e w1 ⟨rfl, h1, hb1, hm1⟩
  obtain ⟨hB, v, hbk, hown, hne⟩ := h1
  have c0 : w1.cell? ⟨b, 0, none⟩ = some (.pointer (some ⟨b, 0, none⟩)) := by rw [Lib.cell_of_heap hbk]; rfl
  have c1 : w1.cell? ⟨b, 1, none⟩ = some v := by rw [Lib.cell_of_heap hbk]; rfl
  go_wp2_with (at_builtin; refine Lib.wpList_append_own_stringF _ rfl _ _ 71 9 rfl B tU i0 Tryz.underlying71 Tryz.underlying9 hi hz0 hz1 hz2 _ _ _ rfl hown s rfl ?c3 ?c4 ?c5 ?_)
  case c3 => unfold maxLen; omega
  case c4 => omega
  case c5 => have := hb1.size; omega
  intro v' w2 hown' hgrow _
  have hlt : b < w1.heap.size := by
    rcases Nat.lt_or_ge b w1.heap.size with h' | h'
    · exact h'
    · simp [Array.getElem?_eq_none h'] at hbk
  have hb2 : w2.heap[b]? = some (.cells #[.pointer (some ⟨b, 0, none⟩), v] tB (0, 0)) := by
    rw [hgrow.block b hlt (fun e => hne e.symm)]
    exact hbk
  have hnb : ∀ k cs, Marked w1 k cs → k ≠ b := fun k cs hk e => by
    subst e
    unfold Marked at hk
    rw [hk] at hbk
    simp only [Option.some.injEq, Obj.cells.injEq] at hbk
    exact absurd hbk.2.1 (by decide)
  have HM : Hid (∀ k cs, Marked w k cs → ∀ u, Marked (w2.setCell ⟨b, 1, none⟩ u) k cs) := Lib.hid (fun k cs hk u => (Below.heap_setCell w2 ⟨b, 1, none⟩ u k (hnb k cs (hm1 k cs hk))).trans ((hgrow.block k (Array.getElem?_eq_some_iff.1 (hm1 k cs hk)).1 (fun e => marked_free (hm1 k cs hk) hown e.symm)).trans (hm1 k cs hk)))
  clear hm1 hnb
  have d0 : w2.cell? ⟨b, 0, none⟩ = some (.pointer (some ⟨b, 0, none⟩)) := by rw [Lib.cell_of_heap hb2]; rfl
  have d1 : w2.cell? ⟨b, 1, none⟩ = some v := by rw [Lib.cell_of_heap hb2]; rfl
  have f1 : w2.frozen? ⟨b, 1, none⟩ = false := Lib.frozen_of_heap hb2 1
  obtain ⟨ao, n', cap, rfl⟩ : ∃ ao n' cap, v' = .slice ao n' cap := by
    rcases hown'.2 with ⟨hv, _⟩ | ⟨g, cap, cur, fz, hv, _⟩
    · exact ⟨_, _, _, hv⟩
    · exact ⟨_, _, _, hv⟩
  go_wp2
  go_ret2
  refine ⟨rfl, ?_, ?_, fun k cs hk => HM.out k cs hk _⟩
  · exact Lib.BuilderAtF.put (T := tB) (e := tU) hB hb2 (bs' := bs ++ Lib.strCells s) (by simpa [Lib.strCells_length] using hown') (by decide)
  · exact (hb1.grown hgrow (by have := hb1.size; omega) (fun k hk => (hown.lt k hk).1)).setCell (p := ⟨b, 1, none⟩) hB _
end Go.Proofs.YtamclieppbnpiabGreatDoor.Lz
/-
  XLxG, turned: what this seat needs of it.
-/
namespace Go.Proofs.YtamclieppbnpiabGreatDoor.Lz
open Go.RowKit
theorem grown_of_below {w w' : World} (h : Below w.heap.size w w') : w.grownBy w' none := ⟨h.os, h.tape, h.output, h.size, fun k hk _ => h.block k hk⟩
theorem own_below {w w' : World} {base : Nat} {e : TypeId} {size : Nat} {v : Value} {n : Nat} {xs : List Value} (h : w.ownsRow base e size v n xs) (hb : Below w.heap.size w w') : w'.ownsRow base e size v n xs :=
  h.kept (grown_of_below hb) (by cases hv : v.ownBlock <;> simp)
theorem wp_append_run {P : Program} {w w' : World} {o : Oper} {a : Act} {K : Act → World → Prop} {Q : Exit → Act → World → Prop} {v u v' : Value} (s x : Operand) (t t2 : TypeId)
    (ho : o.op = .call { callee := .builtin .append, args := #[s, x], argTypes := #[t, t2] }) (hs : a.eval s = v) (hx : a.eval x = u) (hr : (Builtin.append_ #[t, t2] o.type #[v, u]).run P w = .ok v' w') (h : K (a.put o.dst v') w') : o.wp P a w K Q := by
  unfold Oper.wp execOp
  simp only [ho, resolve, invoke, builtin, Sem.run_bind, Sem.run_pure, Result.andThen_ok, List.map_toArray, List.map_cons, List.map_nil, hs, hx, hr]
  exact h
theorem wpList_append_run {P : Program} {w w' : World} {ops : Array Oper} {rest : List Oper} {o : Oper} {a : Act} {Q : Exit → Act → World → Prop} {v u v' : Value} (hgd : o.guard = none) (s x : Operand) (t t2 : TypeId)
    (ho : o.op = .call { callee := .builtin .append, args := #[s, x], argTypes := #[t, t2] }) (hs : a.eval s = v) (hx : a.eval x = u) (hr : (Builtin.append_ #[t, t2] o.type #[v, u]).run P w = .ok v' w') (h : wpList P ops Q rest (a.put o.dst v') w') : wpList P ops Q (o :: rest) a w :=
  wpList_plain hgd fun _ hK => wp_append_run s x t t2 ho hs hx hr (hK _ _ h)
/-- The slice value '.slice A n c' holds, in w, the texts l. -/
def HoldsS (w : World) (A : Option Addr) (l : List ByteArray) : Prop :=
  ∀ (k : Nat) (x : ByteArray), l[k]? = some x → ∃ b off, A = some ⟨b, off, none⟩ ∧ w.cell? ⟨b, off + k, none⟩ = some (.string x)
theorem HoldsS.below {w w' : World} {A : Option Addr} {l : List ByteArray} (h : HoldsS w A l) (hb : Below w.heap.size w w') : HoldsS w' A l := fun k x hx => by
  obtain ⟨b, off, e, h1⟩ := h k x hx
  have hl : b < w.heap.size := cell_lt h1
  exact ⟨b, off, e, (hb.cell (p := ⟨b, _, none⟩) hl).trans h1⟩
theorem take_one {α : Type} {l : List α} {k : Nat} {x : α} (h : l[k]? = some x) : l.take (k + 1) = l.take k ++ [x] := by
  rw [List.take_add_one, h]; rfl
end Go.Proofs.YtamclieppbnpiabGreatDoor.Lz
/-
  XLxAd, turned: what this seat needs of it.
-/
namespace Go.Proofs.YtamclieppbnpiabGreatDoor.Lz
open Go.RowKit Go.Maps
/-- All blocks below base but T's stay. -/
structure KeptBut (base T : Nat) (w w' : World) : Prop where
  os : w'.os = w.os
  tape : w'.tape = w.tape
  output : w'.output = w.output
  size : w.heap.size ≤ w'.heap.size
  block : ∀ k, k < base → k ≠ T → w'.heap[k]? = w.heap[k]?
theorem KeptBut.refl (base T : Nat) (w : World) : KeptBut base T w w := ⟨rfl, rfl, rfl, Nat.le_refl _, fun _ _ _ => rfl⟩
theorem KeptBut.trans {base T : Nat} {a b c : World} (h1 : KeptBut base T a b) (h2 : KeptBut base T b c) : KeptBut base T a c :=
  ⟨h2.os.trans h1.os, h2.tape.trans h1.tape, h2.output.trans h1.output, Nat.le_trans h1.size h2.size, fun k hk hne => (h2.block k hk hne).trans (h1.block k hk hne)⟩
theorem KeptBut.of_below {base T n : Nat} {a b : World} (h : Below n a b) (hn : base ≤ n) : KeptBut base T a b := ⟨h.os, h.tape, h.output, h.size, fun k hk _ => h.block k (by omega)⟩
theorem KeptBut.grown {base T : Nat} {a b : World} {r : Option Nat} (h : a.grownBy b r) (hs : base ≤ a.heap.size) (hr : ∀ k, r = some k → base ≤ k) : KeptBut base T a b := by
  refine ⟨h.os, h.tape, h.output, h.size, fun k hk _ => h.block k (by omega) (fun e => ?_)⟩
  have := hr k (by rw [e])
  omega
theorem KeptBut.setT (base T o : Nat) (w : World) (v : Value) : KeptBut base T w (w.setCell ⟨T, o, none⟩ v) := by
  refine ⟨rfl, rfl, rfl, by simp [World.setCell], fun k _ hne => ?_⟩
  rw [heap_setCell_other _ _ _ _ hne]
end Go.Proofs.YtamclieppbnpiabGreatDoor.Lz
/-
  XRf0, turned: what this seat needs of it.
-/
namespace Go.Proofs.YtamclieppbnpiabGreatDoor.Lz.Rf
open Go.RowKit
theorem empty_not {u : ByteArray} (h : u.size ≠ 0) : u.toList.isEmpty = false := Lz.empty_not (by omega)
end Go.Proofs.YtamclieppbnpiabGreatDoor.Lz.Rf
/-
  XFrX, turned: what this seat needs of it.
-/
namespace Go.Proofs.YtamclieppbnpiabGreatDoor.Fz
open Lz (cell_lt)
open Go Go.RowKit
/-- The slice value '.slice A n c' holds, in w, the texts l. -/
def HoldsS (w : World) (A : Option Addr) (l : List ByteArray) : Prop :=
  ∀ (k : Nat) (x : ByteArray), l[k]? = some x → ∃ b off, A = some ⟨b, off, none⟩ ∧ w.cell? ⟨b, off + k, none⟩ = some (.string x)
theorem HoldsS.below {w w' : World} {A : Option Addr} {l : List ByteArray} (h : HoldsS w A l) (hb : Below w.heap.size w w') : HoldsS w' A l := fun k x hx => by
  obtain ⟨b, off, e, h1⟩ := h k x hx
  exact ⟨b, off, e, (hb.cell (p := ⟨b, _, none⟩) (cell_lt h1)).trans h1⟩
theorem HoldsS.nil (w : World) (A : Option Addr) : HoldsS w A [] := fun k x hx => by simp at hx
theorem list_eq {α : Type} {a b : List α} (hl : a.length = b.length) (h : ∀ k : Nat, k < a.length → a[k]? = b[k]?) : a = b := by
  refine List.ext_getElem? fun k => ?_
  by_cases hk : k < a.length
  · exact h k hk
  · rw [List.getElem?_eq_none (by omega), List.getElem?_eq_none (by omega)]
end Go.Proofs.YtamclieppbnpiabGreatDoor.Fz
