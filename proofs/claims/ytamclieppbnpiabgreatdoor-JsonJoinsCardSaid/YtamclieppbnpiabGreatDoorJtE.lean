/-
  What lies below stays; items of keys. No program here.
-/
import Derived.Test.YtamclieppbnpiabGreatDoorProg
import Derived.Test.YtamclieppbnpiabGreatDoorReg
import Derived.WalkKit
import Derived.WalkSpells
import Derived.WalkLawsBesides
import Derived.Lib.Hide
import Derived.Lib.MinMax
import Derived.Deep.QuietTactic
import Derived.BigQuiet
import Derived.OwnWalk
import Derived.Deep.AppendLies
import Derived.KernelRfl
import Derived.Test.YtamclieppbnpiabGreatDoorJtA
import Derived.Test.YtamclieppbnpiabGreatDoorJtB
import Derived.Test.YtamclieppbnpiabGreatDoorJtC
import Derived.Test.YtamclieppbnpiabGreatDoorJtD
set_option linter.unusedSimpArgs false
set_option linter.unusedVariables false
namespace Go.Proofs.YtamclieppbnpiabGreatDoor
open Go Go.RowKit Go.Maps
open Fz (HoldsS)

theorem JC.frame {w w' : World} (hb : ∀ b, b < w.heap.size → w'.heap[b]? = w.heap[b]?) (v : Js) : ∀ cs, JC w v cs → JC w' v cs := by
  have cell : ∀ {p : Addr} {u : Value}, w.cell? p = some u → w'.cell? p = some u := fun {p u} h => by
    have hl := cell_lt h
    rw [← h]
    unfold World.cell?
    simp only [hb _ hl]
  induction v using Js.ind with
  | _ v ih =>
    intro cs h
    obtain ⟨A, c, B, d, rfl, h1, h2, h3, h4⟩ := JC_iff.1 h
    refine JC_iff.2 ⟨A, c, B, d, rfl, fun k x hx => ?_, h2, h3, fun i x hx => ?_⟩
    · obtain ⟨b, off, e, hc⟩ := h1 k x hx
      exact ⟨b, off, e, cell hc⟩
    · obtain ⟨b, off, cs, e, hc, hj⟩ := h4 i x hx
      exact ⟨b, off, cs, e, fun j u hj => cell (hc j u hj), ih x (List.mem_of_getElem? hx) cs hj⟩
theorem holdsD_of {wk w' : World} {B : Option Addr} {l : List Js} (hb : Below wk.heap.size wk w') (h : HoldsJ wk B l) : HoldsD (fun b => b < wk.heap.size) w' B l := fun i x hx => by
  obtain ⟨b, off, cs, e, hc, hj⟩ := h i x hx
  exact ⟨b, off, cs, e, fun j u hu => (hb.cell (p := ⟨b, off + i * 6 + j, none⟩) (cell_lt (hc j u hu))).trans (hc j u hu), fun w2 h2 => JC.frame (fun b hb' => (h2 b hb').trans (hb.block b hb')) x cs hj⟩
theorem JC.items {w : World} {x : Js} {a0 a1 a2 a3 a4 : Value} {B : Option Addr} {m d : Nat} (h : JC w x [a0, a1, a2, a3, a4, .slice B m d]) : HoldsJ w B x.l := by
  obtain ⟨A', c', B', d', e1, -, -, -, hL⟩ := JC_iff.1 h
  have e2 := congrArg (fun l : List Value => l[5]?) e1
  simp at e2
  rw [e2.1]
  exact hL
theorem getGo_mem {key : ByteArray} {x : Js} : ∀ {ks : List ByteArray} {l : List Js}, getGo key ks l = some x → x ∈ l
  | [], l, h => by cases l <;> cases h
  | k :: ks, [], h => by cases h
  | k :: ks, y :: l, h => by
    unfold getGo at h
    split at h
    · cases h; simp
    · exact List.mem_cons_of_mem _ (getGo_mem h)
theorem item_ok {M : Nat} {v : Js} {key : ByteArray} (h : okJ M v) : okJ M ((getJ v key).getD noJs) := by
  cases hg : getJ v key with
  | none => exact okJ_iff.2 ⟨inI0, Nat.zero_le _, Nat.zero_le _, Nat.zero_le _, fun k hk => (by cases hk), fun x hx => (by cases hx)⟩
  | some x =>
    unfold getJ at hg
    split at hg
    · exact (okJ_iff.1 h).2.2.2.2.2 x (getGo_mem hg)
    · cases hg
/-- Behind a region that stores an item in a new variable. -/
def ItemAt (wk : World) (o : Option Js) (p ok : Value) (wx : World) : Prop := ∃ (blk : Nat) (A : Option Addr) (c : Nat) (B : Option Addr) (d : Nat), p = .pointer (some ⟨blk, 0, none⟩) ∧ ok = .bool o.isSome ∧ VarAt wx blk (o.getD noJs) A c B d ∧ Below wk.heap.size wk wx
theorem GotD.six {D : Nat → Prop} {o : Option Js} {e : Ending} {w' : World} (h : GotD D o e w') : ∃ A c B d, e = .returned (.tuple #[.agg #[.int .i64 (o.getD noJs).kind, .bool (o.getD noJs).yes, .int .i64 (o.getD noJs).n, .string (o.getD noJs).s, .slice A (o.getD noJs).keys.length c, .slice B (o.getD noJs).l.length d], .bool o.isSome]) ∧
    JD D w' (o.getD noJs) [.int .i64 (o.getD noJs).kind, .bool (o.getD noJs).yes, .int .i64 (o.getD noJs).n, .string (o.getD noJs).s, .slice A (o.getD noJs).keys.length c, .slice B (o.getD noJs).l.length d] := by
  obtain ⟨cs, rfl, hJ⟩ := h
  obtain ⟨A, c, B, d, rfl⟩ := JC.six hJ.jc
  exact ⟨A, c, B, d, rfl, hJ⟩
theorem item_new {wk w2 : World} {o : Option Js} {A : Option Addr} {c : Nat} {B : Option Addr} {d : Nat} (hb : Below wk.heap.size wk w2) (hJ : JD (fun b => b < wk.heap.size) w2 (o.getD noJs) [.int .i64 (o.getD noJs).kind, .bool (o.getD noJs).yes, .int .i64 (o.getD noJs).n, .string (o.getD noJs).s, .slice A (o.getD noJs).keys.length c, .slice B (o.getD noJs).l.length d]) :
    ItemAt wk o (.pointer (some ⟨w2.heap.size, 0, none⟩)) (.bool o.isSome) (w2.alloc (.cells #[.int .i64 (o.getD noJs).kind, .bool (o.getD noJs).yes, .int .i64 (o.getD noJs).n, .string (o.getD noJs).s, .slice A (o.getD noJs).keys.length c, .slice B (o.getD noJs).l.length d] tJ)) :=
  ⟨_, A, c, B, d, rfl, rfl, VarAt.new hJ.jc, hb.trans ((below_new w2 _).mono hb.size)⟩
theorem item_old {wk w2 : World} {b0 : Nat} {o : Option Js} {A : Option Addr} {c : Nat} {B : Option Addr} {d : Nat} {a0 a1 a2 a3 a4 a5 : Value} (hb : Below wk.heap.size wk w2) (hrow : w2.heap[b0]? = some (.cells #[a0, a1, a2, a3, a4, a5] tJ (0, 0))) (h0 : wk.heap.size ≤ b0)
    (hJ : JD (fun b => b < wk.heap.size) w2 (o.getD noJs) [.int .i64 (o.getD noJs).kind, .bool (o.getD noJs).yes, .int .i64 (o.getD noJs).n, .string (o.getD noJs).s, .slice A (o.getD noJs).keys.length c, .slice B (o.getD noJs).l.length d]) :
    ItemAt wk o (.pointer (some ⟨b0, 0, none⟩)) (.bool o.isSome) ((((((w2.setCell ⟨b0, 0, none⟩ (.int .i64 (o.getD noJs).kind)).setCell ⟨b0, 1, none⟩ (.bool (o.getD noJs).yes)).setCell ⟨b0, 2, none⟩ (.int .i64 (o.getD noJs).n)).setCell ⟨b0, 3, none⟩ (.string (o.getD noJs).s)).setCell ⟨b0, 4, none⟩ (.slice A (o.getD noJs).keys.length c)).setCell ⟨b0, 5, none⟩ (.slice B (o.getD noJs).l.length d)) :=
  ⟨b0, A, c, B, d, rfl, rfl, ⟨set6 hrow, hJ _ (fun b hb' => set6_other (by omega) _ _ _ _ _ _)⟩, below6 hb h0 _ _ _ _ _ _⟩
end Go.Proofs.YtamclieppbnpiabGreatDoor
