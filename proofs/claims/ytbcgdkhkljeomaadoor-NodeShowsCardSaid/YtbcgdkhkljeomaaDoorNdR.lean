/-
  Nodes in memory of one's own: a row of nodes, each with a row of kids of its own. No program here but the laws of append.
-/
import Derived.Test.YtbcgdkhkljeomaaDoorProg
import Derived.Test.YtbcgdkhkljeomaaDoorReg
import Derived.WalkKit
import Derived.WalkSpells
import Derived.WalkLawsBesides
import Derived.Lib.Hide
import Derived.Lib.MinMax
import Derived.Deep.QuietTactic
import Derived.BigQuiet
import Derived.OwnWalk
import Derived.Deep.AppendLies
import Derived.KernelRfl
import Derived.Laws.OwnMore
import Derived.Deep.OwnRows
import Derived.Maps.AppendAt
import Derived.Test.YtbcgdkhkljeomaaDoorNdE
set_option linter.unusedSimpArgs false
set_option linter.unusedVariables false
namespace Go.Proofs.YtbcgdkhkljeomaaDoor
open Go.RowKit

abbrev tI : TypeId := 3
abbrev tN : TypeId := 37
theorem infoNode : (Tryd.prog.info? 37).map (fun i => (i.zero, i.size, i.bytes)) = some (some (.agg #[.int .i64 0, .string ByteArray.empty, .slice none 0 0]), 3, 48) := by kernel_rfl

def Nd.cells (x : Nd) (v : Value) : List Value := [.int .i64 x.kind, .string x.text, v]
def ndCells (L : List (Nd × Value)) : List Value := L.flatMap fun p => p.1.cells p.2
theorem ndCells_append (L M : List (Nd × Value)) : ndCells (L ++ M) = ndCells L ++ ndCells M := by simp [ndCells]
theorem ndCells_one (x : Nd) (v : Value) : ndCells [(x, v)] = x.cells v := by simp [ndCells]
theorem ndCells_length : ∀ L : List (Nd × Value), (ndCells L).length = L.length * 3
  | [] => rfl
  | p :: L => by
    have : ndCells (p :: L) = p.1.cells p.2 ++ ndCells L := rfl
    rw [this, List.length_append, ndCells_length L, List.length_cons]
    simp [Nd.cells]
    omega
theorem ndCells_at : ∀ (L : List (Nd × Value)) (k : Nat) (p : Nd × Value), L[k]? = some p → (ndCells L)[k * 3]? = some (.int .i64 p.1.kind) ∧ (ndCells L)[k * 3 + 1]? = some (.string p.1.text) ∧ (ndCells L)[k * 3 + 2]? = some p.2
  | [], k, p, h => by simp at h
  | q :: L, 0, p, h => by
    simp at h
    subst h
    exact ⟨rfl, rfl, rfl⟩
  | q :: L, k + 1, p, h => by
    have := ndCells_at L k p (by simpa using h)
    have e : ndCells (q :: L) = q.1.cells q.2 ++ ndCells L := rfl
    have hl : (q.1.cells q.2).length = 3 := rfl
    rw [e]
    refine ⟨?_, ?_, ?_⟩
    · rw [List.getElem?_append_right (by omega), hl, show (k + 1) * 3 - 3 = k * 3 by omega]; exact this.1
    · rw [List.getElem?_append_right (by omega), hl, show (k + 1) * 3 + 1 - 3 = k * 3 + 1 by omega]; exact this.2.1
    · rw [List.getElem?_append_right (by omega), hl, show (k + 1) * 3 + 2 - 3 = k * 3 + 2 by omega]; exact this.2.2
/-- A slice of nodes of one's own, with the values of their kids. -/
structure HasN (w : World) (base : Nat) (v : Value) (L : List (Nd × Value)) : Prop where
  row : w.ownsRow base tN 3 v L.length (ndCells L)
  kids : ∀ p ∈ L, w.ownsRow base tI 1 p.2 p.1.kids.length (intCells p.1.kids)

theorem own_mono {w : World} {b b' : Nat} {e : TypeId} {size : Nat} {v : Value} {n : Nat} {xs : List Value} (h : w.ownsRow b e size v n xs) (hb : b' ≤ b) : w.ownsRow b' e size v n xs := by
  refine ⟨h.1, ?_⟩
  rcases h.2 with h | ⟨g, cap, cur, h1, h2, h3⟩
  · exact .inl h
  · exact .inr ⟨g, cap, cur, h1, by omega, h3⟩
theorem own_apart {w : World} {b1 b2 : Nat} {e1 e2 : TypeId} {s1 s2 : Nat} {v1 v2 : Value} {n1 n2 : Nat} {xs1 xs2 : List Value} (h1 : w.ownsRow b1 e1 s1 v1 n1 xs1) (h2 : w.ownsRow b2 e2 s2 v2 n2 xs2) (hne : e1 ≠ e2) :
    v1.ownBlock = none ∨ v1.ownBlock ≠ v2.ownBlock := by
  rcases h1.2 with ⟨rfl, _⟩ | ⟨g, cap, cur, rfl, _, hg, _⟩
  · exact .inl rfl
  · refine .inr fun e => ?_
    rcases h2.2 with ⟨rfl, _⟩ | ⟨g', cap', cur', rfl, _, hg', _⟩
    · simp [Value.ownBlock] at e
    · simp [Value.ownBlock] at e
      subst e
      rw [hg] at hg'
      simp only [Option.some.injEq, Obj.cells.injEq] at hg'
      exact hne hg'.2.1
theorem own_apart_cells {w : World} {b : Nat} {e t : TypeId} {size : Nat} {v : Value} {n : Nat} {xs : List Value} {k : Nat} {cs : Array Value} {fr : Nat × Nat} (h : w.ownsRow b e size v n xs) (hk : w.heap[k]? = some (.cells cs t fr)) (hne : t ≠ e) : v.ownBlock ≠ some k := by
  intro hv
  rcases h.2 with ⟨rfl, _⟩ | ⟨g, cap, cur, rfl, _, hg, _⟩
  · simp [Value.ownBlock] at hv
  · simp [Value.ownBlock] at hv
    subst hv
    rw [hk] at hg
    simp only [Option.some.injEq, Obj.cells.injEq] at hg
    exact hne hg.2.1
theorem HasN.nil (w : World) (base : Nat) : HasN w base (.slice none 0 0) [] := ⟨World.ownsRow_nil _ _ _ _, fun p hp => by simp at hp⟩
theorem HasN.below {w w' : World} {base : Nat} {v : Value} {L : List (Nd × Value)} (h : HasN w base v L) (hb : Below w.heap.size w w') : HasN w' base v L :=
  ⟨own_below h.row hb, fun p hp => own_below (h.kids p hp) hb⟩
theorem HasN.mono {w : World} {base b : Nat} {v : Value} {L : List (Nd × Value)} (h : HasN w base v L) (hb : b ≤ base) : HasN w b v L := ⟨own_mono h.row hb, fun p hp => own_mono (h.kids p hp) hb⟩
theorem HasN.holds {w : World} {base : Nat} {v : Value} {L : List (Nd × Value)} (h : HasN w base v L) : ∃ A c, v = .slice A L.length c ∧ HoldsN w A (L.map Prod.fst) ∧ L.length ≤ c := by
  rcases h.row.2 with ⟨rfl, h0⟩ | ⟨g, cap, cur, rfl, _, _, hcap, _⟩
  · have : L = [] := List.eq_nil_of_length_eq_zero h0
    subst this
    exact ⟨none, 0, rfl, HoldsN.nil _ _, Nat.le_refl _⟩
  · refine ⟨some ⟨g, 0, none⟩, cap, rfl, fun k x hx => ?_, hcap⟩
    rw [List.getElem?_map] at hx
    obtain ⟨p, hp, rfl⟩ := Option.map_eq_some_iff.1 hx
    have hlt : k < L.length := (List.getElem?_eq_some_iff.1 hp).1
    obtain ⟨c0, c1, c2⟩ := ndCells_at L k p hp
    have hrow := h.row
    have d0 := (hrow.cellAt (k * 3) (by omega)).trans c0
    have d1 := (hrow.cellAt (k * 3 + 1) (by omega)).trans c1
    have d2 := (hrow.cellAt (k * 3 + 2) (by omega)).trans c2
    obtain ⟨B, c, e, _, hH, hc⟩ := holdsI_of_own (h.kids p (List.mem_of_getElem? hp))
    rw [e] at d2
    exact ⟨g, 0, rfl, by simpa using d0, by simpa using d1, B, c, by simpa using d2, hH, hc⟩

theorem wp_append_run {P : Program} {w w' : World} {o : Oper} {a : Act} {K : Act → World → Prop} {Q : Exit → Act → World → Prop} {v u v' : Value} (s x : Operand) (t t2 : TypeId)
    (ho : o.op = .call { callee := .builtin .append, args := #[s, x], argTypes := #[t, t2] }) (hs : a.eval s = v) (hx : a.eval x = u) (hr : (Builtin.append_ #[t, t2] o.type #[v, u]).run P w = .ok v' w') (h : K (a.put o.dst v') w') : o.wp P a w K Q := by
  unfold Oper.wp execOp
  simp only [ho, resolve, invoke, builtin, Sem.run_bind, Sem.run_pure, Result.andThen_ok, List.map_toArray, List.map_cons, List.map_nil, hs, hx, hr]
  exact h
theorem wpList_append_run {P : Program} {w w' : World} {ops : Array Oper} {rest : List Oper} {o : Oper} {a : Act} {Q : Exit → Act → World → Prop} {v u v' : Value} (hgd : o.guard = none) (s x : Operand) (t t2 : TypeId)
    (ho : o.op = .call { callee := .builtin .append, args := #[s, x], argTypes := #[t, t2] }) (hs : a.eval s = v) (hx : a.eval x = u) (hr : (Builtin.append_ #[t, t2] o.type #[v, u]).run P w = .ok v' w') (h : wpList P ops Q rest (a.put o.dst v') w') : wpList P ops Q (o :: rest) a w :=
  wpList_plain hgd fun _ hK => wp_append_run s x t t2 ho hs hx hr (hK _ _ h)
/-- A number is appended. -/
theorem push_int {W : World} {base : Nat} {v : Value} {l : List Int} {x : Int} {g : Nat} (hg : W.heap[g]? = some (.cells #[.int .i64 x] tI (0, 0))) (hown : W.ownsRow base tI 1 v l.length (intCells l)) (hl : l.length ≤ 1000000) (hbase : base ≤ W.heap.size) :
    ∃ A c w', (Builtin.append_ #[35, 35] 35 #[v, .slice (some ⟨g, 0, none⟩) 1 1]).run Tryd.prog W = .ok (.slice A (l.length + 1) c) w' ∧ w'.ownsRow base tI 1 (.slice A (l.length + 1) c) (l ++ [x]).length (intCells (l ++ [x])) ∧
      W.grownBy w' v.ownBlock ∧ ((Value.slice A (l.length + 1) c).ownBlock = v.ownBlock ∨ (Value.slice A (l.length + 1) c).ownBlock = some W.heap.size) := by
  obtain ⟨i0, hi0, hz0, hz1, hz2⟩ := info_parts infoInt
  obtain ⟨v', w', hr, ho, hgr, _, hat⟩ := run_append_own_at (P := Tryd.prog) W base 35 35 tI i0 _ 1 8 Tryd.underlying35 hi0 hz0 hz1 hz2 rfl (by decide) v l.length (intCells l) hown ⟨g, 0, none⟩ 1 1 (intCells [x]) rfl
    (fun j u hj => by
      match j, hj with
      | 0, hj => simp [intCells] at hj; subst hj; rw [addr_add0]; simp [World.cell?, hg]) (by simp [intCells, Value.oneCell']) (by unfold maxLen; omega) (by omega) hbase
  rw [← intCells_append] at ho
  have ho2 : w'.ownsRow base tI 1 v' (l ++ [x]).length (intCells (l ++ [x])) := by rw [List.length_append]; exact ho
  obtain ⟨A, c, rfl, _, _, _⟩ := holdsI_of_own ho2
  rw [List.length_append, List.length_singleton] at hr ho2 hat
  exact ⟨A, c, w', hr, by rw [List.length_append, List.length_singleton]; exact ho2, hgr, hat⟩
/-- A node is appended. -/
theorem push_node {W : World} {base : Nat} {v : Value} {L : List (Nd × Value)} {x : Nd} {u : Value} {g : Nat} (hg : W.heap[g]? = some (.cells #[.int .i64 x.kind, .string x.text, u] tN (0, 0))) (h : HasN W base v L) (hu : W.ownsRow base tI 1 u x.kids.length (intCells x.kids)) (hl : L.length ≤ 1000000) (hbase : base ≤ W.heap.size) :
    ∃ A c w', (Builtin.append_ #[23, 23] 23 #[v, .slice (some ⟨g, 0, none⟩) 1 1]).run Tryd.prog W = .ok (.slice A (L.length + 1) c) w' ∧ HasN w' base (.slice A (L.length + 1) c) (L ++ [(x, u)]) ∧ W.grownBy w' v.ownBlock := by
  obtain ⟨i0, hi0, hz0, hz1, hz2⟩ := info_parts infoNode
  obtain ⟨B, cB, eu, _, _, _⟩ := holdsI_of_own hu
  obtain ⟨v', w', hr, ho, hgr, _⟩ := run_append_own (P := Tryd.prog) W base 23 23 tN i0 _ 3 48 Tryd.underlying23 hi0 hz0 hz1 hz2 rfl (by decide) v L.length (ndCells L) h.row ⟨g, 0, none⟩ 1 1 (x.cells u) rfl
    (World.news_of_block (cs := (x.cells u).toArray) (t := tN) (fr := (0, 0)) hg) (by rw [eu]; simp [Nd.cells, Value.oneCell']) (by unfold maxLen; omega) (by omega) hbase
  rw [← ndCells_one, ← ndCells_append] at ho
  have hk : HasN w' base v' (L ++ [(x, u)]) := by
    refine ⟨by rw [List.length_append]; exact ho, fun p hp => ?_⟩
    rcases List.mem_append.1 hp with hp | hp
    · exact (h.kids p hp).kept hgr (own_apart (h.kids p hp) h.row (by decide))
    · rw [List.mem_singleton.1 hp]
      exact hu.kept hgr (own_apart hu h.row (by decide))
  obtain ⟨A, c, rfl, _, _⟩ := hk.holds
  rw [List.length_append, List.length_singleton] at hr hk
  exact ⟨A, c, w', hr, hk, hgr⟩
end Go.Proofs.YtbcgdkhkljeomaaDoor
