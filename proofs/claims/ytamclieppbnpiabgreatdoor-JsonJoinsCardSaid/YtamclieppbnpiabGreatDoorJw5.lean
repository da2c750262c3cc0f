/-
  Values in memory.
-/
import Derived.Test.YtamclieppbnpiabGreatDoorProg
import Derived.Test.YtamclieppbnpiabGreatDoorReg
import Derived.WalkKit
import Derived.WalkSpells
import Derived.WalkLawsBesides
import Derived.Lib.Hide
import Derived.Lib.MinMax
import Derived.Deep.QuietTactic
import Derived.BigQuiet
import Derived.OwnWalk
import Derived.Deep.AppendLies
import Derived.KernelRfl
import Derived.ArgAppend
import Derived.Laws.OwnMore
import Derived.Laws.Rows
import Derived.Deep.OwnRows
import Derived.Maps.AppendAt
import Derived.Test.YtamclieppbnpiabGreatDoorBytes
import Derived.Test.YtamclieppbnpiabGreatDoorJw4
import Derived.Test.YtamclieppbnpiabGreatDoorLzM1
set_option linter.unusedSimpArgs false
set_option linter.unusedVariables false
namespace Go.Proofs.YtamclieppbnpiabGreatDoor
open Go Go.RowKit Go.Maps
open Fz (HoldsS)

theorem cell_lt {w : World} {p : Addr} {v : Value} (h : w.cell? p = some v) : p.block < w.heap.size := Lz.cell_lt h
abbrev tJ : TypeId := 25
abbrev sK : TypeId := 9
theorem infoJ : (Tryz.prog.info? 25).map (fun i => (i.zero, i.size, i.bytes)) = some (some (.agg #[.int .i64 0, .bool false, .int .i64 0, .string ByteArray.empty, .slice none 0 0, .slice none 0 0]), 6, 88) := by kernel_rfl
theorem infoS : (Tryz.prog.info? 9).map (fun i => (i.zero, i.size, i.bytes)) = some (some (.string ByteArray.empty), 1, 16) := by kernel_rfl

mutual
/-- The six cells hold the value. -/
def JC (w : World) : Js → List Value → Prop
  | .mk kind yes n s keys l, cs => ∃ (A : Option Addr) (c : Nat) (B : Option Addr) (d : Nat), cs = [.int .i64 kind, .bool yes, .int .i64 n, .string s, .slice A keys.length c, .slice B l.length d] ∧ HoldsS w A keys ∧ keys.length ≤ c ∧ l.length ≤ d ∧ JCs w B 0 l
def JCs (w : World) : Option Addr → Nat → List Js → Prop
  | _, _, [] => True
  | B, k, x :: l => (∃ (b off : Nat) (cs : List Value), B = some ⟨b, off, none⟩ ∧ (∀ j u, cs[j]? = some u → w.cell? ⟨b, off + k * 6 + j, none⟩ = some u) ∧ JC w x cs) ∧ JCs w B (k + 1) l
end
/-- Values one behind the other. -/
def HoldsJ (w : World) (B : Option Addr) (l : List Js) : Prop :=
  ∀ i x, l[i]? = some x → ∃ (b off : Nat) (cs : List Value), B = some ⟨b, off, none⟩ ∧ (∀ j u, cs[j]? = some u → w.cell? ⟨b, off + i * 6 + j, none⟩ = some u) ∧ JC w x cs
theorem JCs_iff {w : World} {B : Option Addr} : ∀ (l : List Js) (k : Nat), JCs w B k l ↔ ∀ i x, l[i]? = some x → ∃ (b off : Nat) (cs : List Value), B = some ⟨b, off, none⟩ ∧ (∀ j u, cs[j]? = some u → w.cell? ⟨b, off + (k + i) * 6 + j, none⟩ = some u) ∧ JC w x cs
  | [], k => ⟨fun _ i x h => by simp at h, fun _ => by unfold JCs; trivial⟩
  | x :: l, k => by
    unfold JCs
    rw [JCs_iff l (k + 1)]
    constructor
    · rintro ⟨h1, h2⟩ i y hy
      cases i with
      | zero => simp only [List.getElem?_cons_zero, Option.some.injEq] at hy; subst hy; exact h1
      | succ i =>
        have := h2 i y (by simpa using hy)
        rw [show k + 1 + i = k + (i + 1) by omega] at this
        exact this
    · intro h
      refine ⟨h 0 x rfl, fun i y hy => ?_⟩
      have := h (i + 1) y (by simpa using hy)
      rw [show k + (i + 1) = k + 1 + i by omega] at this
      exact this
theorem JC_iff {w : World} {v : Js} {cs : List Value} : JC w v cs ↔ ∃ (A : Option Addr) (c : Nat) (B : Option Addr) (d : Nat), cs = [.int .i64 v.kind, .bool v.yes, .int .i64 v.n, .string v.s, .slice A v.keys.length c, .slice B v.l.length d] ∧ HoldsS w A v.keys ∧ v.keys.length ≤ c ∧ v.l.length ≤ d ∧ HoldsJ w B v.l := by
  obtain ⟨k, y, n, s, ks, l⟩ := v
  unfold JC HoldsJ
  have h := fun B => JCs_iff (w := w) (B := B) l 0
  simp only [Nat.zero_add] at h
  simp only [h, Js.kind, Js.yes, Js.n, Js.s, Js.keys, Js.l]
theorem JC.len {w : World} {v : Js} {cs : List Value} (h : JC w v cs) : cs.length = 6 := by
  obtain ⟨A, c, B, d, rfl, _⟩ := JC_iff.1 h
  rfl
theorem JC.one {w : World} {v : Js} {cs : List Value} (h : JC w v cs) : ∀ u ∈ cs, u.oneCell' = true := by
  obtain ⟨A, c, B, d, rfl, _⟩ := JC_iff.1 h
  intro u hu
  simp only [List.mem_cons, List.not_mem_nil, or_false] at hu
  rcases hu with rfl | rfl | rfl | rfl | rfl | rfl <;> rfl
theorem HoldsJ.below' {w w' : World} {B : Option Addr} {l : List Js} (ih : ∀ x ∈ l, ∀ cs, JC w x cs → JC w' x cs) (h : HoldsJ w B l) (hb : Below w.heap.size w w') : HoldsJ w' B l := fun i x hx => by
  obtain ⟨b, off, cs, e, h1, h2⟩ := h i x hx
  exact ⟨b, off, cs, e, fun j u hj => (hb.cell (p := ⟨b, off + i * 6 + j, none⟩) (cell_lt (h1 j u hj))).trans (h1 j u hj), ih x (List.mem_of_getElem? hx) cs h2⟩
theorem JC.below {w w' : World} (hb : Below w.heap.size w w') (v : Js) : ∀ cs, JC w v cs → JC w' v cs := by
  induction v using Js.ind with
  | _ v ih =>
    intro cs h
    obtain ⟨A, c, B, d, rfl, h1, h2, h3, h4⟩ := JC_iff.1 h
    exact JC_iff.2 ⟨A, c, B, d, rfl, h1.below hb, h2, h3, h4.below' ih hb⟩
theorem JC.keep {w w' : World} {v : Js} {cs : List Value} (h : JC w v cs) (hb : Below w.heap.size w w') : JC w' v cs := JC.below hb v cs h
theorem HoldsJ.below {w w' : World} {B : Option Addr} {l : List Js} (h : HoldsJ w B l) (hb : Below w.heap.size w w') : HoldsJ w' B l := h.below' (fun x _ => JC.below hb x) hb
theorem HoldsJ.nil (w : World) (B : Option Addr) : HoldsJ w B [] := fun i x h => by simp at h
theorem below_new (w : World) (o : Obj) : Below w.heap.size w (w.alloc o) := (Below.refl _ w).alloc (Nat.le_refl _) _
theorem below_drew (w : World) : Below w.heap.size w w.drew := (Below.refl _ w).drew

/-! ### How large -/
mutual
def okJ (M : Nat) : Js → Prop
  | .mk _ _ n s keys l => InI n ∧ s.size ≤ M ∧ keys.length ≤ M ∧ l.length ≤ M ∧ (∀ k ∈ keys, k.size ≤ M) ∧ okJs M l
def okJs (M : Nat) : List Js → Prop
  | [] => True
  | x :: l => okJ M x ∧ okJs M l
end
theorem okJs_mem {M : Nat} {l : List Js} : okJs M l ↔ ∀ x ∈ l, okJ M x := by
  induction l with
  | nil => simp [okJs]
  | cons x l ih => simp [okJs, ih]
theorem okJ_iff {M : Nat} {v : Js} : okJ M v ↔ InI v.n ∧ v.s.size ≤ M ∧ v.keys.length ≤ M ∧ v.l.length ≤ M ∧ (∀ k ∈ v.keys, k.size ≤ M) ∧ ∀ x ∈ v.l, okJ M x := by
  obtain ⟨k, y, n, s, ks, l⟩ := v
  simp only [okJ, okJs_mem, Js.n, Js.l, Js.s, Js.keys]
theorem okJ.mono {M N : Nat} (hMN : M ≤ N) (v : Js) : okJ M v → okJ N v := by
  induction v using Js.ind with
  | _ v ih =>
    intro h
    obtain ⟨h1, h2, h3, h4, h5, h6⟩ := okJ_iff.1 h
    exact okJ_iff.2 ⟨h1, by omega, by omega, by omega, fun k hk => by have := h5 k hk; omega, fun x hx => ih x hx (h6 x hx)⟩
theorem okJ.fit {M : Nat} (v : Js) : okJ M v → fitJ v := by
  induction v using Js.ind with
  | _ v ih =>
    intro h
    obtain ⟨h1, _, _, _, _, h6⟩ := okJ_iff.1 h
    exact fitJ_iff.2 ⟨h1, fun x hx => ih x hx (h6 x hx)⟩
/-- The value as it is handed on. -/
def Gives (v : Js) (e : Ending) (w w' : World) : Prop := ∃ cs, e = .returned (.agg cs) ∧ JC w' v cs.toList ∧ Below w.heap.size w w'

/-! ### Rows of one's own -/
theorem add_lit (g j : Nat) : (⟨g, 0, none⟩ : Addr).add j = ⟨g, 0 + j, none⟩ := by
  unfold Addr.add
  split
  · rename_i h; subst h; rfl
  · rfl
theorem own_form {w : World} {base : Nat} {e : TypeId} {k : Nat} {v : Value} {n : Nat} {xs : List Value} (h : w.ownsRow base e k v n xs) :
    ∃ A c, v = .slice A n c ∧ n ≤ c ∧ (0 < n → ∃ g, A = some ⟨g, 0, none⟩ ∧ base ≤ g ∧ g < w.heap.size ∧ ∀ j u, xs[j]? = some u → w.cell? ⟨g, 0 + j, none⟩ = some u) := by
  rcases h.2 with ⟨rfl, h0⟩ | ⟨g, cap, cur, rfl, hb, hrow, hcap, _⟩
  · exact ⟨none, 0, by rw [h0], by omega, fun h => by omega⟩
  · refine ⟨some ⟨g, 0, none⟩, cap, rfl, hcap, fun _ => ⟨g, rfl, hb, (Array.getElem?_eq_some_iff.1 hrow).1, fun j u hu => ?_⟩⟩
    have hc := h.cells (g := g) rfl _ _ hu
    rw [add_lit] at hc
    exact hc
def strCells (l : List ByteArray) : List Value := l.map Value.string
theorem strCells_length (l : List ByteArray) : (strCells l).length = l.length := by simp [strCells]
theorem strCells_append (l m : List ByteArray) : strCells (l ++ m) = strCells l ++ strCells m := by simp [strCells]
theorem holdsS_own {w : World} {base : Nat} {e : TypeId} {v : Value} {n : Nat} {l : List ByteArray} (h : w.ownsRow base e 1 v n (strCells l)) : ∃ A c, v = .slice A n c ∧ n ≤ c ∧ n = l.length ∧ HoldsS w A l := by
  obtain ⟨A, c, rfl, hc, hg⟩ := own_form h
  have hl : n = l.length := by have := h.1; rw [strCells_length] at this; omega
  refine ⟨A, c, rfl, hc, hl, fun k x hx => ?_⟩
  have hk := (List.getElem?_eq_some_iff.1 hx).1
  obtain ⟨g, rfl, _, _, hcell⟩ := hg (by omega)
  exact ⟨g, 0, rfl, hcell k (.string x) (by simp [strCells, hx])⟩
theorem push_str {W : World} {base : Nat} {v : Value} {l : List ByteArray} {x : ByteArray} {g : Nat} (hg : W.heap[g]? = some (.cells #[.string x] sK (0, 0))) (hown : W.ownsRow base sK 1 v l.length (strCells l)) (hl : l.length ≤ 1000000000) (hbase : base ≤ W.heap.size) :
    ∃ A c w', (Builtin.append_ #[22, 22] 22 #[v, .slice (some ⟨g, 0, none⟩) 1 1]).run Tryz.prog W = .ok (.slice A (l.length + 1) c) w' ∧ w'.ownsRow base sK 1 (.slice A (l.length + 1) c) (l ++ [x]).length (strCells (l ++ [x])) ∧ W.grownBy w' v.ownBlock ∧ ((Value.slice A (l.length + 1) c).ownBlock = v.ownBlock ∨ (Value.slice A (l.length + 1) c).ownBlock = some W.heap.size) := by
  obtain ⟨i0, hi0, hz0, hz1, hz2⟩ := info_parts infoS
  obtain ⟨v', w', hr, ho, hgr, _, hnew⟩ := run_append_own_at (P := Tryz.prog) W base 22 22 sK i0 _ 1 16 Tryz.underlying22 hi0 hz0 hz1 hz2 rfl (by decide) v l.length (strCells l) hown ⟨g, 0, none⟩ 1 1 [.string x] (by simp)
    (World.news_of_block (cs := #[.string x]) (t := sK) (fr := (0, 0)) hg) (by simp [Value.oneCell']) (by unfold maxLen; omega) (by omega) hbase
  have e : strCells (l ++ [x]) = strCells l ++ [.string x] := strCells_append l [x]
  obtain ⟨A, c, rfl, _, _⟩ := own_form ho
  exact ⟨A, c, w', hr, by rw [e, List.length_append, List.length_singleton]; exact ho, hgr, hnew⟩
theorem flat_at {css : List (List Value)} (h6 : ∀ cs ∈ css, cs.length = 6) : ∀ (i j : Nat) (cs : List Value) (u : Value), css[i]? = some cs → cs[j]? = some u → css.flatten[i * 6 + j]? = some u := by
  induction css with
  | nil => intro i j cs u h; simp at h
  | cons a css ih =>
    intro i j cs u hi hj
    have ha := h6 a (by simp)
    cases i with
    | zero =>
      simp only [List.getElem?_cons_zero, Option.some.injEq] at hi
      subst hi
      have hlt := (List.getElem?_eq_some_iff.1 hj).1
      rw [List.flatten_cons, List.getElem?_append_left (by omega)]
      simpa using hj
    | succ i =>
      have := ih (fun cs h => h6 cs (by simp [h])) i j cs u (by simpa using hi) hj
      rw [List.flatten_cons, List.getElem?_append_right (by omega), ha]
      rw [show (i + 1) * 6 + j - 6 = i * 6 + j by omega]
      exact this
/-- What is held stands in blocks of D alone. -/
def JD (D : Nat → Prop) (w : World) (x : Js) (cs : List Value) : Prop := ∀ w' : World, (∀ b, D b → w'.heap[b]? = w.heap[b]?) → JC w' x cs
theorem JD.jc {D : Nat → Prop} {w : World} {x : Js} {cs : List Value} (h : JD D w x cs) : JC w x cs := h w (fun _ _ => rfl)
theorem JD.mono {D D' : Nat → Prop} {w : World} {x : Js} {cs : List Value} (h : JD D w x cs) (hD : ∀ b, D b → D' b) : JD D' w x cs := fun w' hw => h w' (fun b hb => hw b (hD b hb))
theorem JD.stay {D : Nat → Prop} {w w' : World} {x : Js} {cs : List Value} (h : JD D w x cs) (hw : ∀ b, D b → w'.heap[b]? = w.heap[b]?) : JD D w' x cs := fun w2 h2 => h w2 (fun b hb => (h2 b hb).trans (hw b hb))
theorem own_same {w w' : World} {base : Nat} {e : TypeId} {k : Nat} {v : Value} {n : Nat} {xs : List Value} (h : w.ownsRow base e k v n xs) (hg : ∀ g, v.ownBlock = some g → w'.heap[g]? = w.heap[g]?) : w'.ownsRow base e k v n xs := by
  refine ⟨h.1, ?_⟩
  rcases h.2 with hn | ⟨g, cap, cur, rfl, hb, hgg, rest⟩
  · exact .inl hn
  · exact .inr ⟨g, cap, cur, rfl, hb, (hg g rfl).trans hgg, rest⟩
/-- A row of values of one's own, their parts in blocks of D. -/
structure OwnsJ (w : World) (base : Nat) (D : Nat → Prop) (v : Value) (l : List Js) : Prop where
  low : ∀ b, D b → base ≤ b ∧ b < w.heap.size
  apart : ∀ g, v.ownBlock = some g → ¬ D g
  row : ∃ css : List (List Value), css.length = l.length ∧ w.ownsRow base tJ 6 v l.length css.flatten ∧ ∀ (i : Nat) (x : Js) (cs : List Value), l[i]? = some x → css[i]? = some cs → JD D w x cs
theorem OwnsJ.nil (w : World) (base : Nat) : OwnsJ w base (fun _ => False) (.slice none 0 0) [] := ⟨fun _ h => h.elim, fun _ _ h => h, [], rfl, World.ownsRow_nil _ _ _ _, fun i x cs h => by simp at h⟩
theorem OwnsJ.holds {w : World} {base : Nat} {D : Nat → Prop} {v : Value} {l : List Js} (h : OwnsJ w base D v l) : ∃ B d, v = .slice B l.length d ∧ l.length ≤ d ∧ HoldsJ w B l := by
  obtain ⟨css, h1, h2, h3⟩ := h.row
  obtain ⟨A, c, rfl, hc, hg⟩ := own_form h2
  refine ⟨A, c, rfl, hc, fun i x hx => ?_⟩
  have hi := (List.getElem?_eq_some_iff.1 hx).1
  obtain ⟨g, rfl, _, _, hcell⟩ := hg (by omega)
  have hcs := List.getElem?_eq_getElem (l := css) (i := i) (by omega)
  have hJ := (h3 i x _ hx hcs).jc
  refine ⟨g, 0, css[i]'(by omega), rfl, fun j u hu => ?_, hJ⟩
  have h6 : ∀ cs ∈ css, cs.length = 6 := fun cs hcs => by
    obtain ⟨k, hk⟩ := List.getElem?_of_mem hcs
    have hkl := (List.getElem?_eq_some_iff.1 hk).1
    exact (h3 k _ cs (List.getElem?_eq_getElem (l := l) (i := k) (by omega)) hk).jc.len
  have := hcell _ u (flat_at h6 i j _ u hcs hu)
  rw [show 0 + i * 6 + j = 0 + (i * 6 + j) by omega]
  exact this
theorem OwnsJ.stay {w w' : World} {base : Nat} {D : Nat → Prop} {v : Value} {l : List Js} (h : OwnsJ w base D v l) (hs : w.heap.size ≤ w'.heap.size) (hD : ∀ b, D b → w'.heap[b]? = w.heap[b]?) (hg : ∀ g, v.ownBlock = some g → w'.heap[g]? = w.heap[g]?) : OwnsJ w' base D v l := by
  obtain ⟨css, h1, h2, h3⟩ := h.row
  exact ⟨fun b hb => ⟨(h.low b hb).1, by have := (h.low b hb).2; omega⟩, h.apart, css, h1, own_same h2 hg, fun i x cs hx hcs => (h3 i x cs hx hcs).stay hD⟩
theorem OwnsJ.block {w : World} {base : Nat} {D : Nat → Prop} {v : Value} {l : List Js} (h : OwnsJ w base D v l) : ∀ k, v.ownBlock = some k → base ≤ k ∧ k < w.heap.size := by
  obtain ⟨css, h1, h2, h3⟩ := h.row
  exact h2.lt
theorem OwnsJ.below {w w' : World} {base : Nat} {D : Nat → Prop} {v : Value} {l : List Js} (h : OwnsJ w base D v l) (hb : Below w.heap.size w w') : OwnsJ w' base D v l :=
  h.stay hb.size (fun b hd => hb.block b (h.low b hd).2) (fun g hg => hb.block g (h.block g hg).2)
/-- Only T's cells have turned: T lies below. -/
theorem OwnsJ.but {w w' : World} {base T : Nat} {D : Nat → Prop} {v : Value} {l : List Js} (h : OwnsJ w base D v l) (hb : Lz.KeptBut w.heap.size T w w') (hT : T < base) : OwnsJ w' base D v l :=
  h.stay hb.size (fun b hd => hb.block b (h.low b hd).2 (by have := (h.low b hd).1; omega)) (fun g hg => hb.block g (h.block g hg).2 (by have := (h.block g hg).1; omega))
/-- A value is appended. -/
theorem push_js {W : World} {base : Nat} {D E : Nat → Prop} {v : Value} {l : List Js} {x : Js} {cs : List Value} {g : Nat} (hg : W.heap[g]? = some (.cells cs.toArray tJ (0, 0))) (hJ : JD E W x cs) (hE : ∀ b, E b → base ≤ b ∧ b < W.heap.size) (hEo : ∀ k, v.ownBlock = some k → ¬ E k)
    (hown : OwnsJ W base D v l) (hl : l.length ≤ 1000000000) (hbase : base ≤ W.heap.size) :
    ∃ A c w', (Builtin.append_ #[23, 23] 23 #[v, .slice (some ⟨g, 0, none⟩) 1 1]).run Tryz.prog W = .ok (.slice A (l.length + 1) c) w' ∧ OwnsJ w' base (fun b => D b ∨ E b) (.slice A (l.length + 1) c) (l ++ [x]) ∧ W.grownBy w' v.ownBlock ∧
      ((Value.slice A (l.length + 1) c).ownBlock = v.ownBlock ∨ (Value.slice A (l.length + 1) c).ownBlock = some W.heap.size) := by
  obtain ⟨i0, hi0, hz0, hz1, hz2⟩ := info_parts infoJ
  obtain ⟨css, h1, h2, h3⟩ := hown.row
  have h6 := hJ.jc.len
  obtain ⟨v', w', hr, ho, hgr, _, hnew⟩ := run_append_own_at (P := Tryz.prog) W base 23 23 tJ i0 _ 6 88 Tryz.underlying23 hi0 hz0 hz1 hz2 rfl (by decide) v l.length css.flatten h2 ⟨g, 0, none⟩ 1 1 cs (by omega)
    (World.news_of_block (cs := cs.toArray) (t := tJ) (fr := (0, 0)) hg) hJ.jc.one (by unfold maxLen; omega) (by omega) hbase
  obtain ⟨A, c, rfl, _, _⟩ := own_form ho
  have same : ∀ b, D b ∨ E b → w'.heap[b]? = W.heap[b]? := fun b hb => by
    have hlt : b < W.heap.size := by rcases hb with hb | hb; exact (hown.low b hb).2; exact (hE b hb).2
    refine hgr.block b hlt (fun e => ?_)
    rcases hb with hb | hb
    · exact hown.apart b e.symm hb
    · exact hEo b e.symm hb
  refine ⟨A, c, w', hr, ⟨fun b hb => ?_, fun k hk hb => ?_, css ++ [cs], by simp [h1], ?_, fun i y ds hy hds => ?_⟩, hgr, hnew⟩
  · have := hgr.size
    rcases hb with hb | hb
    · have := hown.low b hb; omega
    · have := hE b hb; omega
  · rcases hnew with h | h
    · rw [h] at hk
      rcases hb with hb | hb
      · exact hown.apart k hk hb
      · exact hEo k hk hb
    · rw [h] at hk
      have hk := Option.some.inj hk
      rcases hb with hb | hb
      · have := hown.low k hb; omega
      · have := hE k hb; omega
  · rw [List.length_append, List.length_singleton, List.flatten_append]
    simpa using ho
  · have stay : ∀ z es, JD D W z es → JD (fun b => D b ∨ E b) w' z es := fun z es hz => (hz.mono (fun b hb => .inl hb)).stay same
    by_cases hi : i < l.length
    · rw [List.getElem?_append_left hi] at hy
      rw [List.getElem?_append_left (by omega)] at hds
      exact stay y ds (h3 i y ds hy hds)
    · rw [List.getElem?_append_right (by omega)] at hy hds
      rw [h1] at hds
      have hz : i - l.length = 0 := by
        cases hq : i - l.length with
        | zero => rfl
        | succ q => rw [hq] at hy; simp at hy
      rw [hz] at hy hds
      simp only [List.getElem?_cons_zero, Option.some.injEq] at hy hds
      subst hy hds
      exact (hJ.mono (fun b hb => .inr hb)).stay same
/-- A value made of rows of one's own. -/
theorem JD_mk {w : World} {base : Nat} {D : Nat → Prop} {kind n : Int} {yes : Bool} {s : ByteArray} {v1 v2 : Value} {keys : List ByteArray} {l : List Js} (hk : w.ownsRow base sK 1 v1 keys.length (strCells keys)) (hl : OwnsJ w base D v2 l) :
    JD (fun b => base ≤ b ∧ b < w.heap.size) w (.mk kind yes n s keys l) [.int .i64 kind, .bool yes, .int .i64 n, .string s, v1, v2] := by
  intro w' hw
  have hk2 : w'.ownsRow base sK 1 v1 keys.length (strCells keys) := own_same hk (fun g hg => hw g (hk.lt g hg))
  obtain ⟨A, c, rfl, hc, _, hS⟩ := holdsS_own hk2
  have hl2 : OwnsJ w' base D v2 l := by
    obtain ⟨css, h1, h2, h3⟩ := hl.row
    have hsz : ∀ b, base ≤ b ∧ b < w.heap.size → w'.heap[b]? = w.heap[b]? := hw
    refine ⟨fun b hb => ⟨(hl.low b hb).1, ?_⟩, hl.apart, css, h1, own_same h2 (fun g hg => hw g (h2.lt g hg)), fun i x cs hx hcs => (h3 i x cs hx hcs).stay (fun b hb => hw b (hl.low b hb))⟩
    have hb2 := (hl.low b hb).2
    have := hw b (hl.low b hb)
    rw [Array.getElem?_eq_getElem hb2] at this
    exact (Array.getElem?_eq_some_iff.1 this).1
  obtain ⟨B, d, rfl, hd, hJ⟩ := hl2.holds
  exact JC_iff.2 ⟨A, c, B, d, rfl, hS, hc, hd, hJ⟩
/-- The value as it is handed on, in blocks of its own. -/
def Fresh (v : Js) (base : Nat) (e : Ending) (w' : World) : Prop := ∃ cs, e = .returned (.agg cs) ∧ JD (fun b => base ≤ b ∧ b < w'.heap.size) w' v cs.toList
end Go.Proofs.YtamclieppbnpiabGreatDoor
