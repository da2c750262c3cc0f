/-
  XNdN, turned: what this seat needs of it.
-/
import Derived.Test.YtebejlnegalokaaGreatDoorProg
import Derived.Test.YtebejlnegalokaaGreatDoorReg
import Derived.WalkKit
import Derived.WalkSpells
import Derived.WalkLawsBesides
import Derived.Lib.Hide
import Derived.Lib.MinMax
import Derived.Deep.QuietTactic
import Derived.BigQuiet
import Derived.OwnWalk
import Derived.Deep.AppendLies
import Derived.KernelRfl
import Derived.WalkKit
import Derived.Test.YtebejlnegalokaaGreatDoorBytes
import Derived.Laws.OwnMore
import Derived.Test.YtebejlnegalokaaGreatDoorMapI
import Derived.Deep.RegionWith
import Derived.Deep.CutBlock
import Derived.Deep.OwnRows
import Derived.LaidEql
import Derived.Stop.Asserts
import Derived.RowKitTokens
import Derived.Shelf.Strings.Builder1
import Derived.Shelf.Small.Strs
import Derived.Shelf.Strings.BuilderF
import Derived.Shelf.Strings.BuilderK
import Derived.Shelf.Strconv.Itoa0
import Derived.Shelf.Strconv.Itoa1
import Derived.Shelf.LaysM
import Derived.Shelf.Strconv.Itoa2
import Derived.Shelf.Strconv.Itoa3
import Derived.Shelf.Strings.Search1
import Derived.Lib.FrozenHead2
import Derived.Laws.IdiomStrings
import Derived.Lib.MinMax
import Derived.Test.YtebejlnegalokaaGreatDoorPaLay
import Derived.Test.YtebejlnegalokaaGreatDoorNzM4
import Derived.Maps.AppendAt
import Derived.Lib.Builder
import Derived.OneCell
import Derived.Test.YtebejlnegalokaaGreatDoorRegZ
import Derived.Deep.Upon
set_option linter.unusedSimpArgs false
set_option linter.unusedVariables false
namespace Go.Proofs.YtebejlnegalokaaGreatDoor.Nz
open Go.RowKit Go.Shelf
theorem fold_congr {α β : Type} {l : List α} {f g : β → α → β} (h : ∀ b, ∀ x ∈ l, f b x = g b x) : ∀ b, l.foldl f b = l.foldl g b := by
  induction l with
  | nil => intro b; rfl
  | cons x l ih => intro b; rw [List.foldl_cons, List.foldl_cons, h b x List.mem_cons_self, ih (fun b y hy => h b y (List.mem_cons_of_mem _ hy))]
theorem deepF_more {t : List Nd} (h : nodesOk 0 t = true) : ∀ (n f i : Nat), i < n → i < f → i < t.length → deepF t f i = deepAt t i
  | 0, _, i, h1, _, _ => by omega
  | n + 1, f, i, h1, h2, h3 => by
    obtain ⟨f, rfl⟩ : ∃ f', f = f' + 1 := ⟨f - 1, by omega⟩
    unfold deepAt deepF
    rw [fold_congr (g := fun m k => max m (deepF t i k.toNat)) (fun b k hk => by
      have := nodes_kid h h3 hk
      rw [deepF_more h n f k.toNat (by omega) (by omega) (by omega), deepF_more h n i k.toNat (by omega) (by omega) (by omega)])]
theorem deepAt_eq {t : List Nd} (h : nodesOk 0 t = true) {i : Nat} (hi : i < t.length) {x : Nd} (hx : t[i]? = some x) : deepAt t i = x.kids.foldl (fun m k => max m (deepAt t k.toNat)) 0 + 1 := by
  have h9 : deepAt t i = deepF t (i + 1) i := rfl
  rw [h9]
  unfold deepF
  rw [fold_congr (g := fun m k => max m (deepAt t k.toNat)) (fun b k hk => by
    have := nodes_kid h hi hk
    rw [deepF_more h i i k.toNat (by omega) (by omega) (by omega)]), nodeAt_some hx]
theorem firstF_more {t : List Nd} (h : nodesOk 0 t = true) : ∀ (n f i : Nat), i < n → i < f → i < t.length → firstF t f i = firstAt t i
  | 0, _, i, h1, _, _ => by omega
  | n + 1, f, i, h1, h2, h3 => by
    obtain ⟨f, rfl⟩ : ∃ f', f = f' + 1 := ⟨f - 1, by omega⟩
    unfold firstAt firstF
    rw [fold_congr (g := fun m k => min m (firstF t i k.toNat)) (fun b k hk => by
      have := nodes_kid h h3 hk
      rw [firstF_more h n f k.toNat (by omega) (by omega) (by omega), firstF_more h n i k.toNat (by omega) (by omega) (by omega)])]
theorem firstAt_eq {t : List Nd} (h : nodesOk 0 t = true) {i : Nat} (hi : i < t.length) {x : Nd} (hx : t[i]? = some x) : firstAt t i = x.kids.foldl (fun m k => min m (firstAt t k.toNat)) i := by
  have h9 : firstAt t i = firstF t (i + 1) i := rfl
  rw [h9]
  unfold firstF
  rw [fold_congr (g := fun m k => min m (firstAt t k.toNat)) (fun b k hk => by
    have := nodes_kid h hi hk
    rw [firstF_more h i i k.toNat (by omega) (by omega) (by omega)]), nodeAt_some hx]
theorem fold_min_le {f : Int → Nat} : ∀ (l : List Int) (b : Nat), l.foldl (fun m k => min m (f k)) b ≤ b
  | [], b => Nat.le_refl _
  | k :: l, b => Nat.le_trans (fold_min_le l _) (Nat.min_le_left _ _)
theorem firstAt_le {t : List Nd} (h : nodesOk 0 t = true) {i : Nat} (h2 : i < t.length) : firstAt t i ≤ i := by
  have g := List.getElem?_eq_getElem h2
  rw [firstAt_eq h h2 g]
  exact fold_min_le _ _
end Go.Proofs.YtebejlnegalokaaGreatDoor.Nz
/-
  XNdQ, turned: what this seat needs of it.
-/
namespace Go.Proofs.YtebejlnegalokaaGreatDoor.Nz
open Go.RowKit Go.Shelf
theorem showN_yes {t : List Nd} (h : rightN t = true) : showN t = strB (showAt t (t.length - 1)) := by unfold showN; rw [h]; rfl
theorem showN_no {t : List Nd} (h : rightN t = false) : showN t = ByteArray.empty := by unfold showN; rw [h]; rfl
theorem deepN_yes {t : List Nd} (h : rightN t = true) : deepN t = deepAt t (t.length - 1) := by unfold deepN; rw [h]; rfl
set_option maxRecDepth 100000 in
set_option maxHeartbeats 4000000 in
theorem showAll_any (t : List Nd) (A : Option Addr) (c : Nat) (w : World) (hh : HoldsN w A t) (hi : IntN t) :
    Calls Tryz.prog 23 #[.slice A t.length c] w fun e w' => e = .returned (.string (showN t)) ∧ Below w.heap.size w w' := by
  have HR := Lib.hid (right_any t A c w hh hi)
  cases hr : rightN t with
  | false =>
    rw [hr] at HR
    have HD := Lib.hid (showN_no hr)
    clear hr hh hi
    go_enter Tryz.func23, Tryz.ntmps23
    go_wp2_with fail
    refine HR.out.mono ?_
    rintro e w0 ⟨rfl, hb⟩
    go_wp2_with fail
    go_ret
    rw [HD.out]
    exact ⟨rfl, hb⟩
  | true =>
    have r1 := (rightN_parts hr).1
    have r2 := (rightN_parts hr).2.1
    have HS := Lib.hid (fun W T hT hH => show_any t hr hi t.length (t.length - 1) (by omega) (by omega) T A c W hT hH)
    rw [show (((t.length - 1 : Nat) : Nat) : Int) = (t.length : Int) - 1 by omega] at HS
    rw [hr] at HR
    have HD := Lib.hid (showN_yes hr)
    have HH := Lib.hid hh
    clear hr hh hi
    have hw4 : IntKind.i64.wrap ((t.length : Int) - 1) = (t.length : Int) - 1 := IntWalk.i64_in _ (by omega)
    go_enter Tryz.func23, Tryz.ntmps23
    go_wp2_with fail
    refine HR.out.mono ?_
    rintro e w0 ⟨rfl, hb⟩
    have hb1 : Below w.heap.size w (w0.alloc (.cells #[.slice A t.length c] 63)) := hb.alloc hb.size _
    have HX := Lib.hid (HS.out (w0.alloc (.cells #[.slice A t.length c] 63)) w0.heap.size (heap_alloc_new _ _) (HH.out.below hb1))
    go_wp2_with fail
    refine HX.out.mono ?_
    rintro e w2 ⟨rfl, hb2⟩
    go_wp2_with fail
    go_ret
    rw [HD.out]
    exact ⟨rfl, hb1.trans (hb2.mono hb1.size)⟩
end Go.Proofs.YtebejlnegalokaaGreatDoor.Nz
/-
  XNdR, turned: what this seat needs of it.
-/
namespace Go.Proofs.YtebejlnegalokaaGreatDoor.Nz
open Go.RowKit
abbrev tI : TypeId := 3
abbrev tN : TypeId := 49
theorem infoNode : (Tryz.prog.info? 49).map (fun i => (i.zero, i.size, i.bytes)) = some (some (.agg #[.int .i64 0, .string ByteArray.empty, .slice none 0 0]), 3, 48) := by kernel_rfl
def Nd.cells (x : Nd) (v : Value) : List Value := [.int .i64 x.kind, .string x.text, v]
def ndCells (L : List (Nd × Value)) : List Value := L.flatMap fun p => p.1.cells p.2
theorem ndCells_append (L M : List (Nd × Value)) : ndCells (L ++ M) = ndCells L ++ ndCells M := by simp [ndCells]
theorem ndCells_one (x : Nd) (v : Value) : ndCells [(x, v)] = x.cells v := by simp [ndCells]
theorem ndCells_at : ∀ (L : List (Nd × Value)) (k : Nat) (p : Nd × Value), L[k]? = some p → (ndCells L)[k * 3]? = some (.int .i64 p.1.kind) ∧ (ndCells L)[k * 3 + 1]? = some (.string p.1.text) ∧ (ndCells L)[k * 3 + 2]? = some p.2
  | [], k, p, h => by simp at h
  | q :: L, 0, p, h => by
    simp at h
    subst h
    exact ⟨rfl, rfl, rfl⟩
  | q :: L, k + 1, p, h => by
    have := ndCells_at L k p (by simpa using h)
    have e : ndCells (q :: L) = q.1.cells q.2 ++ ndCells L := rfl
    have hl : (q.1.cells q.2).length = 3 := rfl
    rw [e]
    refine ⟨?_, ?_, ?_⟩
    · rw [List.getElem?_append_right (by omega), hl, show (k + 1) * 3 - 3 = k * 3 by omega]; exact this.1
    · rw [List.getElem?_append_right (by omega), hl, show (k + 1) * 3 + 1 - 3 = k * 3 + 1 by omega]; exact this.2.1
    · rw [List.getElem?_append_right (by omega), hl, show (k + 1) * 3 + 2 - 3 = k * 3 + 2 by omega]; exact this.2.2
/-- A slice of nodes of one's own, with the values of their kids. -/
structure HasN (w : World) (base : Nat) (v : Value) (L : List (Nd × Value)) : Prop where
  row : w.ownsRow base tN 3 v L.length (ndCells L)
  kids : ∀ p ∈ L, w.ownsRow base tI 1 p.2 p.1.kids.length (intCells p.1.kids)
theorem own_mono {w : World} {b b' : Nat} {e : TypeId} {size : Nat} {v : Value} {n : Nat} {xs : List Value} (h : w.ownsRow b e size v n xs) (hb : b' ≤ b) : w.ownsRow b' e size v n xs := by
  refine ⟨h.1, ?_⟩
  rcases h.2 with h | ⟨g, cap, cur, h1, h2, h3⟩
  · exact .inl h
  · exact .inr ⟨g, cap, cur, h1, by omega, h3⟩
theorem own_apart {w : World} {b1 b2 : Nat} {e1 e2 : TypeId} {s1 s2 : Nat} {v1 v2 : Value} {n1 n2 : Nat} {xs1 xs2 : List Value} (h1 : w.ownsRow b1 e1 s1 v1 n1 xs1) (h2 : w.ownsRow b2 e2 s2 v2 n2 xs2) (hne : e1 ≠ e2) :
    v1.ownBlock = none ∨ v1.ownBlock ≠ v2.ownBlock := by
  rcases h1.2 with ⟨rfl, _⟩ | ⟨g, cap, cur, rfl, _, hg, _⟩
  · exact .inl rfl
  · refine .inr fun e => ?_
    rcases h2.2 with ⟨rfl, _⟩ | ⟨g', cap', cur', rfl, _, hg', _⟩
    · simp [Value.ownBlock] at e
    · simp [Value.ownBlock] at e
      subst e
      rw [hg] at hg'
      simp only [Option.some.injEq, Obj.cells.injEq] at hg'
      exact hne hg'.2.1
theorem own_apart_cells {w : World} {b : Nat} {e t : TypeId} {size : Nat} {v : Value} {n : Nat} {xs : List Value} {k : Nat} {cs : Array Value} {fr : Nat × Nat} (h : w.ownsRow b e size v n xs) (hk : w.heap[k]? = some (.cells cs t fr)) (hne : t ≠ e) : v.ownBlock ≠ some k := by
  intro hv
  rcases h.2 with ⟨rfl, _⟩ | ⟨g, cap, cur, rfl, _, hg, _⟩
  · simp [Value.ownBlock] at hv
  · simp [Value.ownBlock] at hv
    subst hv
    rw [hk] at hg
    simp only [Option.some.injEq, Obj.cells.injEq] at hg
    exact hne hg.2.1
theorem HasN.nil (w : World) (base : Nat) : HasN w base (.slice none 0 0) [] := ⟨World.ownsRow_nil _ _ _ _, fun p hp => by simp at hp⟩
theorem HasN.below {w w' : World} {base : Nat} {v : Value} {L : List (Nd × Value)} (h : HasN w base v L) (hb : Below w.heap.size w w') : HasN w' base v L :=
  ⟨own_below h.row hb, fun p hp => own_below (h.kids p hp) hb⟩
theorem HasN.mono {w : World} {base b : Nat} {v : Value} {L : List (Nd × Value)} (h : HasN w base v L) (hb : b ≤ base) : HasN w b v L := ⟨own_mono h.row hb, fun p hp => own_mono (h.kids p hp) hb⟩
theorem HasN.holds {w : World} {base : Nat} {v : Value} {L : List (Nd × Value)} (h : HasN w base v L) : ∃ A c, v = .slice A L.length c ∧ HoldsN w A (L.map Prod.fst) ∧ L.length ≤ c := by
  rcases h.row.2 with ⟨rfl, h0⟩ | ⟨g, cap, cur, rfl, _, _, hcap, _⟩
  · have : L = [] := List.eq_nil_of_length_eq_zero h0
    subst this
    exact ⟨none, 0, rfl, HoldsN.nil _ _, Nat.le_refl _⟩
  · refine ⟨some ⟨g, 0, none⟩, cap, rfl, fun k x hx => ?_, hcap⟩
    rw [List.getElem?_map] at hx
    obtain ⟨p, hp, rfl⟩ := Option.map_eq_some_iff.1 hx
    have hlt : k < L.length := (List.getElem?_eq_some_iff.1 hp).1
    obtain ⟨c0, c1, c2⟩ := ndCells_at L k p hp
    have hrow := h.row
    have d0 := (hrow.cellAt (k * 3) (by omega)).trans c0
    have d1 := (hrow.cellAt (k * 3 + 1) (by omega)).trans c1
    have d2 := (hrow.cellAt (k * 3 + 2) (by omega)).trans c2
    obtain ⟨B, c, e, _, hH, hc⟩ := holdsI_of_own (h.kids p (List.mem_of_getElem? hp))
    rw [e] at d2
    exact ⟨g, 0, rfl, by simpa using d0, by simpa using d1, B, c, by simpa using d2, hH, hc⟩
theorem wp_append_run {P : Program} {w w' : World} {o : Oper} {a : Act} {K : Act → World → Prop} {Q : Exit → Act → World → Prop} {v u v' : Value} (s x : Operand) (t t2 : TypeId)
    (ho : o.op = .call { callee := .builtin .append, args := #[s, x], argTypes := #[t, t2] }) (hs : a.eval s = v) (hx : a.eval x = u) (hr : (Builtin.append_ #[t, t2] o.type #[v, u]).run P w = .ok v' w') (h : K (a.put o.dst v') w') : o.wp P a w K Q := by
  unfold Oper.wp execOp
  simp only [ho, resolve, invoke, builtin, Sem.run_bind, Sem.run_pure, Result.andThen_ok, List.map_toArray, List.map_cons, List.map_nil, hs, hx, hr]
  exact h
theorem wpList_append_run {P : Program} {w w' : World} {ops : Array Oper} {rest : List Oper} {o : Oper} {a : Act} {Q : Exit → Act → World → Prop} {v u v' : Value} (hgd : o.guard = none) (s x : Operand) (t t2 : TypeId)
    (ho : o.op = .call { callee := .builtin .append, args := #[s, x], argTypes := #[t, t2] }) (hs : a.eval s = v) (hx : a.eval x = u) (hr : (Builtin.append_ #[t, t2] o.type #[v, u]).run P w = .ok v' w') (h : wpList P ops Q rest (a.put o.dst v') w') : wpList P ops Q (o :: rest) a w :=
  wpList_plain hgd fun _ hK => wp_append_run s x t t2 ho hs hx hr (hK _ _ h)
/-- A number is appended. -/
theorem push_int {W : World} {base : Nat} {v : Value} {l : List Int} {x : Int} {g : Nat} (hg : W.heap[g]? = some (.cells #[.int .i64 x] tI (0, 0))) (hown : W.ownsRow base tI 1 v l.length (intCells l)) (hl : l.length ≤ 1000000) (hbase : base ≤ W.heap.size) :
    ∃ A c w', (Builtin.append_ #[47, 47] 47 #[v, .slice (some ⟨g, 0, none⟩) 1 1]).run Tryz.prog W = .ok (.slice A (l.length + 1) c) w' ∧ w'.ownsRow base tI 1 (.slice A (l.length + 1) c) (l ++ [x]).length (intCells (l ++ [x])) ∧
      W.grownBy w' v.ownBlock ∧ ((Value.slice A (l.length + 1) c).ownBlock = v.ownBlock ∨ (Value.slice A (l.length + 1) c).ownBlock = some W.heap.size) := by
  obtain ⟨i0, hi0, hz0, hz1, hz2⟩ := info_parts infoInt
  obtain ⟨v', w', hr, ho, hgr, _, hat⟩ := run_append_own_at (P := Tryz.prog) W base 47 47 tI i0 _ 1 8 Tryz.underlying47 hi0 hz0 hz1 hz2 rfl (by decide) v l.length (intCells l) hown ⟨g, 0, none⟩ 1 1 (intCells [x]) rfl
    (fun j u hj => by
      match j, hj with
      | 0, hj => simp [intCells] at hj; subst hj; rw [addr_add0]; simp [World.cell?, hg]) (by simp [intCells, Value.oneCell']) (by unfold maxLen; omega) (by omega) hbase
  rw [← intCells_append] at ho
  have ho2 : w'.ownsRow base tI 1 v' (l ++ [x]).length (intCells (l ++ [x])) := by rw [List.length_append]; exact ho
  obtain ⟨A, c, rfl, _, _, _⟩ := holdsI_of_own ho2
  rw [List.length_append, List.length_singleton] at hr ho2 hat
  exact ⟨A, c, w', hr, by rw [List.length_append, List.length_singleton]; exact ho2, hgr, hat⟩
/-- A node is appended. -/
theorem push_node {W : World} {base : Nat} {v : Value} {L : List (Nd × Value)} {x : Nd} {u : Value} {g : Nat} (hg : W.heap[g]? = some (.cells #[.int .i64 x.kind, .string x.text, u] tN (0, 0))) (h : HasN W base v L) (hu : W.ownsRow base tI 1 u x.kids.length (intCells x.kids)) (hl : L.length ≤ 1000000) (hbase : base ≤ W.heap.size) :
    ∃ A c w', (Builtin.append_ #[23, 23] 23 #[v, .slice (some ⟨g, 0, none⟩) 1 1]).run Tryz.prog W = .ok (.slice A (L.length + 1) c) w' ∧ HasN w' base (.slice A (L.length + 1) c) (L ++ [(x, u)]) ∧ W.grownBy w' v.ownBlock := by
  obtain ⟨i0, hi0, hz0, hz1, hz2⟩ := info_parts infoNode
  obtain ⟨B, cB, eu, _, _, _⟩ := holdsI_of_own hu
  obtain ⟨v', w', hr, ho, hgr, _⟩ := run_append_own (P := Tryz.prog) W base 23 23 tN i0 _ 3 48 Tryz.underlying23 hi0 hz0 hz1 hz2 rfl (by decide) v L.length (ndCells L) h.row ⟨g, 0, none⟩ 1 1 (x.cells u) rfl
    (World.news_of_block (cs := (x.cells u).toArray) (t := tN) (fr := (0, 0)) hg) (by rw [eu]; simp [Nd.cells, Value.oneCell']) (by unfold maxLen; omega) (by omega) hbase
  rw [← ndCells_one, ← ndCells_append] at ho
  have hk : HasN w' base v' (L ++ [(x, u)]) := by
    refine ⟨by rw [List.length_append]; exact ho, fun p hp => ?_⟩
    rcases List.mem_append.1 hp with hp | hp
    · exact (h.kids p hp).kept hgr (own_apart (h.kids p hp) h.row (by decide))
    · rw [List.mem_singleton.1 hp]
      exact hu.kept hgr (own_apart hu h.row (by decide))
  obtain ⟨A, c, rfl, _, _⟩ := hk.holds
  rw [List.length_append, List.length_singleton] at hr hk
  exact ⟨A, c, w', hr, hk, hgr⟩
end Go.Proofs.YtebejlnegalokaaGreatDoor.Nz
/-
  XNdS, turned: what this seat needs of it.
-/
namespace Go.Proofs.YtebejlnegalokaaGreatDoor.Nz
open Go.RowKit
theorem cell_of_row0 {w : World} {k : Nat} {cs : Array Value} {t : TypeId} {fr : Nat × Nat} (h : w.heap[k]? = some (.cells cs t fr)) (j : Nat) : w.cell? ⟨k, j, none⟩ = cs[j]? := by simp [World.cell?, h]
end Go.Proofs.YtebejlnegalokaaGreatDoor.Nz
/-
  XNdT, turned: what this seat needs of it.
-/
namespace Go.Proofs.YtebejlnegalokaaGreatDoor.Nz
open Go.RowKit
def cut50 (s : ByteArray) : ByteArray := s.extract 0 (min s.size 50)
def few1 (x : Nd) : Nd := ⟨x.kind, cut50 x.text, x.kids.take 60⟩
def fewN (t : List Nd) : List Nd := (t.take 60).map few1
theorem fewN_small (t : List Nd) (hw : ∀ x ∈ t, (Lit.int .i64 x.kind).wf = true ∧ ∀ k ∈ x.kids, (Lit.int .i64 k).wf = true) : IntN (fewN t) := by
  intro x hx
  unfold fewN at hx
  obtain ⟨y, hy, rfl⟩ := List.mem_map.1 hx
  obtain ⟨h1, h2⟩ := hw y (List.mem_of_mem_take hy)
  refine ⟨h1, ?_, ?_, fun k hk => h2 k (List.mem_of_mem_take hk)⟩
  · simp [few1]; omega
  · simp [few1, cut50, ByteArray.size_extract]; omega
set_option maxHeartbeats 4000000 in
theorem cut_any (s : ByteArray) (w : World) (hs : s.size ≤ maxLen) :
    Calls Tryz.prog 24 #[.string s] w fun e w' => e = .returned (.string (cut50 s)) ∧ w' = w := by
  unfold maxLen at hs
  unfold cut50
  have e : (min (s.size : Int) 50).toNat = min s.size 50 := by omega
  go_enter Tryz.func24, Tryz.ntmps24
  go_wp2
  go_ret
  exact ⟨by rw [← e]; rfl, rfl⟩
/-- Numbers are appended to none. -/
theorem push_ints {W : World} {base : Nat} {B : Option Addr} {l : List Int} {c2 : Nat} (hH : HoldsI W B l) (hl : l.length ≤ 1000000) (hbase : base ≤ W.heap.size) :
    ∃ A c w', (Builtin.append_ #[47, 47] 47 #[.slice none 0 0, .slice B l.length c2]).run Tryz.prog W = .ok (.slice A l.length c) w' ∧ w'.ownsRow base tI 1 (.slice A l.length c) l.length (intCells l) ∧ W.grownBy w' none := by
  obtain ⟨i0, hi0, hz0, hz1, hz2⟩ := info_parts infoInt
  cases hle : l with
  | nil =>
    subst hle
    refine ⟨none, 0, W, ?_, World.ownsRow_nil _ _ _ _, World.grownBy.refl _ _⟩
    refine run_append_nothing (P := Tryz.prog) W 47 47 47 tI i0 Tryz.underlying47 hi0 none 0 0 (Nat.le_refl _) (.slice B 0 c2) ⟨.inl ⟨_, Tryz.underlying47⟩, fun w' => ?_, ?_, ?_, by rw [Nat.zero_mul]; rfl, by simp⟩
    · simp [Builtin.lenOf]
    · cases B <;> simp [Builtin.firstCells, loadCellsFrom, loadCells]
    · cases B <;> simp [Builtin.firstCells, loadCellsFrom, loadCells]
  | cons x l' =>
    rw [← hle]
    have h0 : l[0]? = some x := by rw [hle]; rfl
    obtain ⟨b, off, rfl, _⟩ := hH 0 x h0
    obtain ⟨v', w', hr, ho, hgr, _, hat⟩ := run_append_own_at (P := Tryz.prog) W base 47 47 tI i0 _ 1 8 Tryz.underlying47 hi0 hz0 hz1 hz2 rfl (by decide) (.slice none 0 0) 0 [] (World.ownsRow_nil _ _ _ _) ⟨b, off, none⟩ l.length c2 (intCells l) (by rw [intCells_length]; omega)
      (fun j u hj => by
        simp only [intCells, List.getElem?_map] at hj
        obtain ⟨y, hy, rfl⟩ := Option.map_eq_some_iff.1 hj
        obtain ⟨b', off', e, h1⟩ := hH j y hy
        cases e
        have ea : (⟨b, off, none⟩ : Addr).add j = ⟨b, off + j, none⟩ := by
          unfold Addr.add
          split
          · rename_i h; subst h; rfl
          · rfl
        rw [ea]
        exact h1) (by intro u hu; simp only [intCells, List.mem_map] at hu; obtain ⟨y, _, rfl⟩ := hu; rfl) (by unfold maxLen; omega) (by omega) hbase
    rw [Nat.zero_add] at ho
    obtain ⟨A, c, rfl, _, _, _⟩ := holdsI_of_own ho
    exact ⟨A, c, w', hr, ho, hgr⟩
end Go.Proofs.YtebejlnegalokaaGreatDoor.Nz
/-
  XNdU, turned: what this seat needs of it.
-/
namespace Go.Proofs.YtebejlnegalokaaGreatDoor.Nz
open Go.RowKit
theorem fewN_snoc {t : List Nd} {i : Nat} {x : Nd} (h : t[i]? = some x) (hi : i < 60) : fewN (t.take i) ++ [few1 x] = fewN (t.take (i + 1)) := by
  unfold fewN
  rw [List.take_take, List.take_take, Nat.min_eq_right (by omega), Nat.min_eq_right (by omega), take_one h, List.map_append]
  rfl
theorem fewN_full {t : List Nd} {i : Nat} (h : 60 ≤ i ∨ t.length ≤ i) : fewN (t.take i) = fewN t := by
  unfold fewN
  rw [List.take_take]
  rcases h with h | h
  · rw [Nat.min_eq_left h]
  · congr 1
    by_cases h2 : 60 ≤ i
    · rw [Nat.min_eq_left h2]
    · rw [Nat.min_eq_right (by omega), List.take_of_length_le h, List.take_of_length_le (by omega)]
theorem HoldsI.take {w : World} {A : Option Addr} {l : List Int} (h : HoldsI w A l) (n : Nat) : HoldsI w A (l.take n) := fun k x hx => by
  by_cases hk : k < n
  · rw [List.getElem?_take, if_pos hk] at hx
    exact h k x hx
  · rw [List.getElem?_take, if_neg hk] at hx
    cases hx
set_option maxRecDepth 100000 in
set_option maxHeartbeats 8000000 in
theorem few_any (t : List Nd) (A : Option Addr) (c : Nat) (w : World) (hh : HoldsN w A t) (hl : t.length ≤ maxLen) (hs : ∀ x ∈ t, x.text.size ≤ maxLen) (hkl : ∀ x ∈ t, x.kids.length ≤ maxLen) :
    Calls Tryz.prog 10 #[.slice A t.length c] w fun e w' => ∃ v L, e = .returned v ∧ L.map Prod.fst = fewN t ∧ HasN w' w.heap.size v L ∧ Below w.heap.size w w' := by
  have HH := Lib.hid hh
  have HS := Lib.hid hs
  have HKL := Lib.hid hkl
  have HCUT := Lib.hid cut_any
  clear hh hs hkl
  unfold maxLen at hl
  go_enter Tryz.func10, Tryz.ntmps10
  go_wp2_with fail
  go_loopw [3, 4] (fun v s wr => ∃ (i : Nat) (L : List (Nd × Value)), s = .int .i64 i ∧ i ≤ t.length ∧ i ≤ 60 ∧ Hid (L.length = i) ∧ Hid (L.map Prod.fst = fewN (t.take i)) ∧ Hid (HasN wr w.heap.size v L) ∧ Hid (Below w.heap.size w wr)) (fun _ s _ => 60 - (intOf s).toNat)
  case atStart => exact ⟨0, [], rfl, Nat.zero_le _, by omega, Lib.hid rfl, Lib.hid (by simp [fewN]), Lib.hid (HasN.nil _ _), Lib.hid (Below.refl _ _)⟩
  case round =>
    obtain ⟨i, L, rfl, hi, hi60, HL, HM, HN, HB⟩ := hrel
    by_cases hlt : i < t.length
    · by_cases h60 : i < 60
      · have h60' : (i : Int) < 60 := by omega
        have g := List.getElem?_eq_getElem hlt
        have hmem := List.getElem_mem hlt
        have HM2 : Hid ((L.map Prod.fst) ++ [few1 t[i]] = fewN (t.take (i + 1))) := Lib.hid (by rw [HM.out]; exact fewN_snoc g h60)
        generalize t[i] = x at *
        obtain ⟨b, off, rfl, c0, c1, B, c2, c3, hK, hc⟩ := HH.out i x g
        have z3 := HS.out x hmem
        have z2 := HKL.out x hmem
        unfold maxLen at z2
        have lb : b < w.heap.size := cell_lt c0
        have hb := HB.out
        have hsz := hb.size
        have d0 := (hb.cell (p := ⟨b, _, none⟩) lb).trans c0
        have d1 := (hb.cell (p := ⟨b, _, none⟩) lb).trans c1
        have HC3 := Lib.hid c3
        have HKx := Lib.hid hK
        have lt1 : b < wr.heap.size := by omega
        have HCX := Lib.hid (fun W => HCUT.out x.text W z3)
        clear c0 c1 c3 hK g hmem
        go_wp2_with fail
        go_cut [5] from 16 to 27 (fun p wx => p = .pointer (some ⟨wr.heap.size, 0, none⟩) ∧ wx = (wr.alloc (.cells #[.int .i64 x.kind, .string (cut50 x.text), .slice none 0 0] tN)).drew)
        case first =>
          go_region_with (go_at_call 24; refine (HCX.out _).mono ?_; rintro e w' ⟨rfl, rfl⟩)
          all_goals go_wp2_with fail
          all_goals go_meet
          all_goals exact ⟨rfl, rfl⟩
        case rest =>
          obtain ⟨rfl, rfl⟩ := hcut
          have hr0 : (wr.alloc (.cells #[.int .i64 x.kind, .string (cut50 x.text), .slice none 0 0] tN)).drew.heap[wr.heap.size]? = some (.cells #[.int .i64 x.kind, .string (cut50 x.text), .slice none 0 0] tN (0, 0)) := heap_alloc_new _ _
          have hlow : Below wr.heap.size wr (wr.alloc (.cells #[.int .i64 x.kind, .string (cut50 x.text), .slice none 0 0] tN)).drew := ((Below.refl _ wr).alloc (Nat.le_refl _) _).drew
          have hz0 : (wr.alloc (.cells #[.int .i64 x.kind, .string (cut50 x.text), .slice none 0 0] tN)).drew.heap.size = wr.heap.size + 1 := by simp
          generalize (wr.alloc (.cells #[.int .i64 x.kind, .string (cut50 x.text), .slice none 0 0] tN)).drew = W0 at *
          have HN1 := HN
          clear HN
          generalize hWR : wr = V at *
          generalize hPP : V.heap.size = P at *
          have hBw : Below w.heap.size w W0 := hb.trans (hlow.mono hsz)
          have d2 := (hBw.cell (p := ⟨b, _, none⟩) lb).trans HC3.out
          have f0 : W0.cell? ⟨P, 2, none⟩ = some (.slice none 0 0) := by rw [cell_of_row0 hr0]; rfl
          have hKt : HoldsI W0.drew B (x.kids.take 60) := ((HKx.out.below hBw).take 60)
          have hmn : (x.kids.take 60).length = min x.kids.length 60 := by simp; omega
          obtain ⟨A9, c9, w9, hrun, hown9, hgr9⟩ := push_ints (base := P + 1) (c2 := c2) hKt (by omega) (by show P + 1 ≤ W0.heap.size; omega)
          have hmi : (min (x.kids.length : Int) 60).toNat = (x.kids.take 60).length := by rw [hmn]; omega
          have hm0 : (0 : Int) ≤ min (x.kids.length : Int) 60 := by omega
          have hm1 : min (x.kids.length : Int) 60 ≤ (c2 : Int) := by omega
          have hrow9 : w9.heap[P]? = some (.cells #[.int .i64 x.kind, .string (cut50 x.text), .slice none 0 0] tN (0, 0)) := (hgr9.block P (by show P < W0.heap.size; omega) (by simp)).trans hr0
          have lb9 : b < W0.heap.size := by omega
          have d9 : w9.cell? ⟨b, off + i * 3 + 2, none⟩ = some (.slice B x.kids.length c2) := (hgr9.cell_far ⟨b, off + i * 3 + 2, none⟩ lb9 (by simp)).trans d2
          have f1 : w9.cell? ⟨P, 2, none⟩ = some (.slice none 0 0) := by rw [cell_of_row0 hrow9]; rfl
          have f2 : w9.frozen? ⟨P, 2, none⟩ = false := frozen_of_row w9 _ 2 _ _ hrow9
          generalize (x.kids.take 60).length = m at *
          have hr10 := heap_setCell_same w9 P 2 _ _ (.slice A9 m c9) hrow9
          have hB9 : Below P V (w9.setCell ⟨P, 2, none⟩ (.slice A9 m c9)) := ((hlow.drew.grown hgr9 (by show P ≤ W0.heap.size; omega) (fun kk hkk => by simp at hkk)).setCell (p := ⟨P, 2, none⟩) (Nat.le_refl _) _)
          have hU9 : (w9.setCell ⟨P, 2, none⟩ (.slice A9 m c9)).ownsRow (P + 1) tI 1 (.slice A9 m c9) m (intCells (x.kids.take 60)) := ownsRow_setCell_other hown9 (fun e => (own_apart_cells hown9 hrow9 (by decide)) e) _
          have hz9 : P + 1 ≤ (w9.setCell ⟨P, 2, none⟩ (.slice A9 m c9)).heap.size := by
            have := hgr9.size
            have h2 : W0.drew.heap.size = W0.heap.size := rfl
            simp
            omega
          have HB9 := Lib.hid hB9
          have HU9 := Lib.hid hU9
          clear hB9 hU9 hgr9 hown9 hKt hr0 hrow9 hmn
          go_wp2_with fail
          refine wp_region_ordz (S := fun w' => w'.cell? ⟨P, 2, none⟩ = some (.slice none 0 0) ∧ w'.cell? ⟨b, off + i * 3 + 2, none⟩ = some (.slice B x.kids.length c2)) [0, 1, 2, 3, 4, 5, 6, 7, 8, 9, 10, 11, 12, 13, 14] [15, 16, 17] 17 (by kernel_rfl) (by kernel_rfl) (fun _ _ _ _ _ h => h) ⟨f0, d2⟩ ?_
          simp only [pick, List.filterMap_cons, List.filterMap_nil, List.getElem?_toArray, List.getElem?_cons_zero, List.getElem?_cons_succ]
          repeat (refine wpHead_step (v := ?_) rfl ?_ ?_; rotate_left; (focus (rintro w1 ⟨f0, d2⟩; go_simp; try with_reducible rfl)); simp only [Act.put, List.setIfInBounds_toArray, List.set_cons_zero, List.set_cons_succ])
          refine wpHead_nil ?_
          refine wpTailZ_step rfl (fun K hK => ?_)
          refine wp_append_run _ _ 47 47 rfl rfl rfl hrun ?_
          refine hK _ _ ⟨f1, d9⟩ ?_
          clear hK K
          try simp only [Act.put, List.setIfInBounds_toArray, List.set_cons_zero, List.set_cons_succ]
          refine wpTailZ_step rfl (fun K hK => ?_)
          go_wp2_with fail
          refine hK _ _ ⟨f1, d9⟩ ?_
          clear hK K
          try simp only [Act.put, List.setIfInBounds_toArray, List.set_cons_zero, List.set_cons_succ]
          clear hrun d9 d2 f0 hmi hm0 hm1
          generalize hW5 : w9.setCell ⟨P, 2, none⟩ (.slice A9 m c9) = W5 at *
          have e0 : W5.cell? ⟨P, 0, none⟩ = some (.int .i64 x.kind) := by rw [cell_of_row0 hr10]; rfl
          have e1 : W5.cell? ⟨P, 1, none⟩ = some (.string (cut50 x.text)) := by rw [cell_of_row0 hr10]; rfl
          have e2 : W5.cell? ⟨P, 2, none⟩ = some (.slice A9 m c9) := by rw [cell_of_row0 hr10]; rfl
          have hNr : HasN (W5.alloc (.cells #[.int .i64 x.kind, .string (cut50 x.text), .slice A9 m c9] tN)) w.heap.size u3 L := (HN1.out.below (by rw [hPP]; exact HB9.out)).below ((Below.refl _ W5).alloc (Nat.le_refl _) _)
          have hlm : (few1 x).kids.length = m := by
            have h := HU9.out.1
            rw [intCells_length] at h
            show (x.kids.take 60).length = m
            omega
          have hur : (W5.alloc (.cells #[.int .i64 x.kind, .string (cut50 x.text), .slice A9 m c9] tN)).ownsRow w.heap.size tI 1 (.slice A9 m c9) (few1 x).kids.length (intCells (few1 x).kids) := by
            rw [hlm]
            exact own_mono (HU9.out.alloc _) (by omega)
          obtain ⟨A8, c8, w8, hrun8, hN8, hgr8⟩ := push_node (x := few1 x) (g := W5.heap.size) (heap_alloc_new W5 _) hNr hur (by rw [HL.out]; omega) (by simp; omega)
          have hut5 : ∃ A5 c5, u3 = .slice A5 L.length c5 := by
            obtain ⟨A5, c5, e, _⟩ := hNr.holds
            exact ⟨A5, c5, e⟩
          obtain ⟨A5, c5, rfl⟩ := hut5
          have hBw8 : Below w.heap.size w w8 := (((hb.trans (HB9.out.mono hsz)).alloc (by omega) _).grown hgr8 (by simp; omega) (fun kk hkk => (hNr.row.lt kk hkk).1))
          have HN8 := Lib.hid hN8
          have HB8 := Lib.hid hBw8
          have HML : Hid ((L ++ [(few1 x, Value.slice A9 m c9)]).map Prod.fst = fewN (t.take (i + 1))) := Lib.hid (by
            rw [List.map_append]
            exact HM2.out)
          have HL9 : Hid ((L ++ [(few1 x, Value.slice A9 m c9)]).length = i + 1) := Lib.hid (by rw [List.length_append, HL.out]; rfl)
          clear hNr hur hN8 hBw8 hgr8 hlm
          refine wpTailZ_last rfl (fun K hK => ?_)
          go_wp2_with (at_builtin; go_must (refine wpList_append_run rfl _ _ 23 23 rfl rfl rfl hrun8 ?_))
          go_roundw
          case rel => exact ⟨i + 1, _, by go_num, by omega, by omega, HL9, HML, HN8, HB8⟩
          case measure => simp [intOf]; omega
      · obtain rfl : i = 60 := by omega
        have HML : Hid (L.map Prod.fst = fewN t) := Lib.hid (by rw [HM.out]; exact fewN_full (.inl (Nat.le_refl _)))
        go_wp2_with fail
        go_ret
        exact ⟨_, L, rfl, HML.out, HN.out, HB.out⟩
    · obtain rfl : i = t.length := by omega
      have HML : Hid (L.map Prod.fst = fewN t) := Lib.hid (by rw [HM.out]; exact fewN_full (.inr (Nat.le_refl _)))
      go_wp2_with fail
      go_ret
      exact ⟨_, L, rfl, HML.out, HN.out, HB.out⟩
end Go.Proofs.YtebejlnegalokaaGreatDoor.Nz
