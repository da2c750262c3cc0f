/-
  What the matcher holds in memory while its steps go on; what keeps it. No walk here.
-/
import Derived.Test.YtlokkdbgihbnhabDoorProg
import Derived.Test.YtlokkdbgihbnhabDoorReg
import Derived.WalkKit
import Derived.WalkSpells
import Derived.WalkLawsBesides
import Derived.Lib.Hide
import Derived.Lib.MinMax
import Derived.Deep.QuietTactic
import Derived.BigQuiet
import Derived.OwnWalk
import Derived.Deep.AppendLies
import Derived.KernelRfl
import Derived.RangeFuncNested
import Derived.RangeFuncBound
import Derived.RangeFuncCalls
import Derived.RangeFuncLeaves
import Derived.RangeFuncBox
import Derived.Shelf.Abstract
import Derived.WalkSmall
import Derived.OneCell
import Derived.Test.YtlokkdbgihbnhabDoorKeep
import Derived.Test.YtlokkdbgihbnhabDoorJoint
import Derived.Test.YtlokkdbgihbnhabDoorGrpN
set_option linter.unusedSimpArgs false
set_option linter.unusedVariables false
namespace Go.Proofs.YtlokkdbgihbnhabDoor
open Go Go.RowKit

def Far (o v : Value) : Prop := ∀ b, o.ownBlock = some b → v.ownBlock ≠ some b
theorem Far.symm {o v : Value} (h : Far o v) : Far v o := fun b hb he => h b he hb

theorem row_ne {W : World} {base : Nat} {e : TypeId} {size : Nat} {v : Value} {n : Nat} {xs : List Value} (h : W.ownsRow base e size v n xs) {k : Nat} {cs : Array Value} {t : TypeId} {fr : Nat × Nat} (hk : W.heap[k]? = some (.cells cs t fr)) (hte : t ≠ e) : v.ownBlock ≠ some k := by
  intro hv
  rcases h.2 with ⟨rfl, _⟩ | ⟨g, cap, cur, rfl, _, hg, _⟩
  · simp [Value.ownBlock] at hv
  · simp [Value.ownBlock] at hv
    subst hv
    rw [hg] at hk
    cases hk
    exact hte rfl

theorem own_mono {w : World} {base base' : Nat} {e : TypeId} {size : Nat} {v : Value} {n : Nat} {xs : List Value} (h : w.ownsRow base e size v n xs) (hb : base' ≤ base) : w.ownsRow base' e size v n xs := by
  refine ⟨h.1, ?_⟩
  rcases h.2 with h0 | ⟨g, cap, cur, hv, hg, rest⟩
  · exact .inl h0
  · exact .inr ⟨g, cap, cur, hv, Nat.le_trans hb hg, rest⟩

theorem grown_setCell (w : World) (p : Addr) (v : Value) : w.grownBy (w.setCell p v) (some p.block) :=
  ⟨rfl, rfl, rfl, by simp, fun k _ hk => heap_setCell_other w p k v (fun e => hk (by simp [e]))⟩

theorem others_of_below {W W' : World} (hb : Below W.heap.size W W') : KeepsOthers W W' := ⟨hb.size, fun k o h _ => (hb.block k (Array.getElem?_eq_some_iff.1 h).1).trans h⟩

/-- The matcher at a, its pointer's box at Bm, the depths' box at Bd. -/
structure MatC (l : List Tok) (w0 : World) (A : Option Addr) (c a Bm Bd : Nat) (sv pv dv : Value) (stk prs ds : List Int) (mo : Int) (ev : Value) (W : World) : Prop where
  low : Below w0.heap.size w0 W
  bm : Boxed W Bm 41 (.pointer (some ⟨a, 0, none⟩))
  bd : Boxed W Bd 25 dv
  ma : W.heap[a]? = some (.cells #[sv, .slice A l.length c, pv, .int .i64 mo, ev] 49 (0, 0))
  stk : W.ownsRow w0.heap.size 3 1 sv stk.length (intCells stk)
  prs : W.ownsRow w0.heap.size 3 1 pv prs.length (intCells prs)
  dps : W.ownsRow w0.heap.size 3 1 dv ds.length (intCells ds)
  f1 : Far pv sv
  f2 : Far pv dv
  f3 : Far sv dv
  ga : w0.heap.size ≤ a
  gd : w0.heap.size ≤ Bd

section
variable {l : List Tok} {w0 : World} {A : Option Addr} {c a Bm Bd : Nat} {sv pv dv : Value} {stk prs ds : List Int} {mo : Int} {ev : Value} {W W' : World}

theorem MatC.below (h : MatC l w0 A c a Bm Bd sv pv dv stk prs ds mo ev W) (hb : Below W.heap.size W W') : MatC l w0 A c a Bm Bd sv pv dv stk prs ds mo ev W' :=
  ⟨h.low.trans (hb.mono h.low.size), (hb.block _ h.bm.lt).trans h.bm, (hb.block _ h.bd.lt).trans h.bd, (hb.block _ (Array.getElem?_eq_some_iff.1 h.ma).1).trans h.ma, own_below h.stk hb, own_below h.prs hb, own_below h.dps hb, h.f1, h.f2, h.f3, h.ga, h.gd⟩

theorem MatC.drew (h : MatC l w0 A c a Bm Bd sv pv dv stk prs ds mo ev W) : MatC l w0 A c a Bm Bd sv pv dv stk prs ds mo ev W.drew := h.below (Below.refl _ _).drew
theorem MatC.drewN (h : MatC l w0 A c a Bm Bd sv pv dv stk prs ds mo ev W) (n : Nat) : MatC l w0 A c a Bm Bd sv pv dv stk prs ds mo ev (W.drewN n) := h.below (below_drewN (Below.refl _ _) n)
theorem MatC.alloc (h : MatC l w0 A c a Bm Bd sv pv dv stk prs ds mo ev W) (o : Obj) : MatC l w0 A c a Bm Bd sv pv dv stk prs ds mo ev (W.alloc o) := h.below ((Below.refl _ _).alloc (Nat.le_refl _) o)
theorem MatC.la (h : MatC l w0 A c a Bm Bd sv pv dv stk prs ds mo ev W) : a < W.heap.size := (Array.getElem?_eq_some_iff.1 h.ma).1

theorem MatC.c0 (h : MatC l w0 A c a Bm Bd sv pv dv stk prs ds mo ev W) : W.cell? ⟨a, 0, none⟩ = some sv := by simp [World.cell?, h.ma]
theorem MatC.c1 (h : MatC l w0 A c a Bm Bd sv pv dv stk prs ds mo ev W) : W.cell? ⟨a, 1, none⟩ = some (.slice A l.length c) := by simp [World.cell?, h.ma]
theorem MatC.c2 (h : MatC l w0 A c a Bm Bd sv pv dv stk prs ds mo ev W) : W.cell? ⟨a, 2, none⟩ = some pv := by simp [World.cell?, h.ma]
theorem MatC.c3 (h : MatC l w0 A c a Bm Bd sv pv dv stk prs ds mo ev W) : W.cell? ⟨a, 3, none⟩ = some (.int .i64 mo) := by simp [World.cell?, h.ma]
theorem MatC.c4 (h : MatC l w0 A c a Bm Bd sv pv dv stk prs ds mo ev W) : W.cell? ⟨a, 4, none⟩ = some ev := by simp [World.cell?, h.ma]
theorem MatC.fz (h : MatC l w0 A c a Bm Bd sv pv dv stk prs ds mo ev W) (o : Nat) : W.frozen? ⟨a, o, none⟩ = false := frozen_of_row W a o _ _ h.ma

theorem MatC.na (h : MatC l w0 A c a Bm Bd sv pv dv stk prs ds mo ev W) : Bm ≠ a ∧ Bd ≠ a ∧ Bm ≠ Bd := by
  have h1 : W.heap[Bm]? = some (.cells #[.pointer (some ⟨a, 0, none⟩)] 41 (0, 0)) := h.bm
  have h2 : W.heap[Bd]? = some (.cells #[dv] 25 (0, 0)) := h.bd
  refine ⟨fun e => ?_, fun e => ?_, fun e => ?_⟩
  · rw [e, h.ma] at h1; cases h1
  · rw [e, h.ma] at h2; cases h2
  · rw [e, h2] at h1; cases h1

theorem MatC.setStack (h : MatC l w0 A c a Bm Bd sv pv dv stk prs ds mo ev W) (v : Value) (stk' : List Int) (hv : W.ownsRow w0.heap.size 3 1 v stk'.length (intCells stk')) (f1 : Far pv v) (f3 : Far v dv) :
    MatC l w0 A c a Bm Bd v pv dv stk' prs ds mo ev (W.setCell ⟨a, 0, none⟩ v) := by
  have hg := grown_setCell W ⟨a, 0, none⟩ v
  obtain ⟨n1, n2, _⟩ := h.na
  exact ⟨h.low.setCell (p := ⟨a, 0, none⟩) h.ga v, h.bm.kept hg (by simpa using n1), h.bd.kept hg (by simpa using n2), heap_setCell_same W a 0 _ _ v h.ma, hv.kept hg (Or.inr (row_ne hv h.ma (by decide))),
    h.prs.kept hg (Or.inr (row_ne h.prs h.ma (by decide))), h.dps.kept hg (Or.inr (row_ne h.dps h.ma (by decide))), f1, h.f2, f3, h.ga, h.gd⟩

theorem MatC.setMost (h : MatC l w0 A c a Bm Bd sv pv dv stk prs ds mo ev W) (mo' : Int) :
    MatC l w0 A c a Bm Bd sv pv dv stk prs ds mo' ev (W.setCell ⟨a, 3, none⟩ (.int .i64 mo')) := by
  have hg := grown_setCell W ⟨a, 3, none⟩ (.int .i64 mo')
  obtain ⟨n1, n2, _⟩ := h.na
  exact ⟨h.low.setCell (p := ⟨a, 3, none⟩) h.ga _, h.bm.kept hg (by simpa using n1), h.bd.kept hg (by simpa using n2), heap_setCell_same W a 3 _ _ _ h.ma, h.stk.kept hg (Or.inr (row_ne h.stk h.ma (by decide))),
    h.prs.kept hg (Or.inr (row_ne h.prs h.ma (by decide))), h.dps.kept hg (Or.inr (row_ne h.dps h.ma (by decide))), h.f1, h.f2, h.f3, h.ga, h.gd⟩

theorem MatC.setErr (h : MatC l w0 A c a Bm Bd sv pv dv stk prs ds mo ev W) (ev' : Value) :
    MatC l w0 A c a Bm Bd sv pv dv stk prs ds mo ev' (W.setCell ⟨a, 4, none⟩ ev') := by
  have hg := grown_setCell W ⟨a, 4, none⟩ ev'
  obtain ⟨n1, n2, _⟩ := h.na
  exact ⟨h.low.setCell (p := ⟨a, 4, none⟩) h.ga _, h.bm.kept hg (by simpa using n1), h.bd.kept hg (by simpa using n2), heap_setCell_same W a 4 _ _ _ h.ma, h.stk.kept hg (Or.inr (row_ne h.stk h.ma (by decide))),
    h.prs.kept hg (Or.inr (row_ne h.prs h.ma (by decide))), h.dps.kept hg (Or.inr (row_ne h.dps h.ma (by decide))), h.f1, h.f2, h.f3, h.ga, h.gd⟩

theorem MatC.setPair {g n cap : Nat} (h : MatC l w0 A c a Bm Bd sv (.slice (some ⟨g, 0, none⟩) n cap) dv stk prs ds mo ev W) (hn : n = prs.length) (q : Nat) (x : Int) :
    MatC l w0 A c a Bm Bd sv (.slice (some ⟨g, 0, none⟩) n cap) dv stk (prs.set q x) ds mo ev (W.setCell ⟨g, q, none⟩ (.int .i64 x)) := by
  subst hn
  obtain ⟨h1, hg⟩ := h.prs.stored q (.int .i64 x)
  have gg := (h.prs.lt g rfl).1
  rw [intCells_set] at h1
  have na : some a ≠ some g := fun e => row_ne h.prs h.ma (by decide) e.symm
  have nm : some Bm ≠ some g := fun e => row_ne h.prs h.bm (by decide) e.symm
  have nd : some Bd ≠ some g := fun e => row_ne h.prs h.bd (by decide) e.symm
  exact ⟨h.low.setCell (p := ⟨g, q, none⟩) gg _, h.bm.kept hg nm, h.bd.kept hg nd, (hg.block a h.la na).trans h.ma, h.stk.kept hg (Or.inr (h.f1 g rfl)),
    by simpa using h1, h.dps.kept hg (Or.inr (h.f2 g rfl)), h.f1, h.f2, h.f3, h.ga, h.gd⟩

theorem MatC.setDeep {W1 : World} (h : MatC l w0 A c a Bm Bd sv pv dv stk prs ds mo ev W) (dv' : Value) (ds' : List Int) (hg : W.grownBy W1 dv.ownBlock) (hv : W1.ownsRow w0.heap.size 3 1 dv' ds'.length (intCells ds')) (f2 : Far pv dv') (f3 : Far sv dv') :
    MatC l w0 A c a Bm Bd sv pv dv' stk prs ds' mo ev (W1.setCell ⟨Bd, 0, none⟩ dv') := by
  have gg := ownBlock_ge h.dps
  have na : some a ≠ dv.ownBlock := fun e => row_ne h.dps h.ma (by decide) e.symm
  have nm : some Bm ≠ dv.ownBlock := fun e => row_ne h.dps h.bm (by decide) e.symm
  have nd : some Bd ≠ dv.ownBlock := fun e => row_ne h.dps h.bd (by decide) e.symm
  have b1 := h.bd.kept hg nd
  have hg2 := grown_setCell W1 ⟨Bd, 0, none⟩ dv'
  obtain ⟨n1, n2, n3⟩ := h.na
  have bm1 := h.bm.kept hg nm
  have ma1 := (hg.block a h.la na).trans h.ma
  have s1 := h.stk.kept hg (far_row' h.f3)
  have p1 := h.prs.kept hg (far_row' h.f2)
  have lw1 : Below w0.heap.size w0 W1 := h.low.grown hg h.low.size gg
  have nd1 : Bd ≠ a := n2
  exact ⟨lw1.setCell (p := ⟨Bd, 0, none⟩) h.gd dv', bm1.kept hg2 (by simpa using n3), b1.set dv', (hg2.block a (Array.getElem?_eq_some_iff.1 ma1).1 (by simpa using Ne.symm nd1)).trans ma1,
    s1.kept hg2 (Or.inr (row_ne s1 b1 (by decide))), p1.kept hg2 (Or.inr (row_ne p1 b1 (by decide))), hv.kept hg2 (Or.inr (row_ne hv b1 (by decide))), h.f1, f2, f3, h.ga, h.gd⟩

theorem MatC.putObj (h : MatC l w0 A c a Bm Bd sv pv dv stk prs ds mo ev W) {L : Nat} {o : Obj} (o' : Obj) (hl : W.heap[L]? = some o) (ho : o.isCells = false) (hL : w0.heap.size ≤ L) :
    MatC l w0 A c a Bm Bd sv pv dv stk prs ds mo ev (W.putObj L o') := by
  have hg := grownBy_putObj' W L o'
  have ne : ∀ {k : Nat} {cs : Array Value} {t : TypeId} {fr : Nat × Nat}, W.heap[k]? = some (.cells cs t fr) → some k ≠ some L := fun hk e => by
    cases e
    rw [hl] at hk
    cases hk
    cases ho
  exact ⟨h.low.grown hg h.low.size (fun k e => by cases e; exact hL), h.bm.kept hg (ne h.bm), h.bd.kept hg (ne h.bd), (hg.block a h.la (ne h.ma)).trans h.ma, ownsRow_putObj h.stk o' hl ho, ownsRow_putObj h.prs o' hl ho, ownsRow_putObj h.dps o' hl ho, h.f1, h.f2, h.f3, h.ga, h.gd⟩
end
end Go.Proofs.YtlokkdbgihbnhabDoor
