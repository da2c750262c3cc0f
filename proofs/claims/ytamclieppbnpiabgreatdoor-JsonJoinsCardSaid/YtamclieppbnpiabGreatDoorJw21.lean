/-
  Items appended: what the memory holds. No program here.
-/
import Derived.Test.YtamclieppbnpiabGreatDoorProg
import Derived.Test.YtamclieppbnpiabGreatDoorReg
import Derived.WalkKit
import Derived.WalkSpells
import Derived.WalkLawsBesides
import Derived.Lib.Hide
import Derived.Lib.MinMax
import Derived.Deep.QuietTactic
import Derived.BigQuiet
import Derived.OwnWalk
import Derived.Deep.AppendLies
import Derived.KernelRfl
import Derived.Laws.OwnMore
import Derived.Test.YtamclieppbnpiabGreatDoorJw20
import Derived.Test.YtamclieppbnpiabGreatDoorJw19
set_option linter.unusedSimpArgs false
set_option linter.unusedVariables false
namespace Go.Proofs.YtamclieppbnpiabGreatDoor
open Go Go.RowKit Go.Maps
open Fz (HoldsS)

/-- What the loop over the items holds. -/
structure ItemsAt (w wr : World) (R : Nat) (kind nest : Int) (ks lv : Value) (keys : List ByteArray) (acc : List Js) (l : List UInt8) (ev : Value) : Prop where
  low : Lz.KeptBut w.heap.size R w wr
  rd : RdAt wr R l nest ev
  box : wr.heap[w.heap.size]? = some (.cells #[.pointer (some ⟨R, 0, none⟩)] 47 (0, 0))
  res : wr.heap[w.heap.size + 1]? = some (.cells #[.int .i64 0, .bool false, .int .i64 0, .string ⟨#[]⟩, .slice none 0 0, .slice none 0 0] tJ (0, 0))
  val : wr.heap[w.heap.size + 1 + 1]? = some (.cells #[.int .i64 kind, .bool false, .int .i64 0, .string ⟨#[]⟩, ks, lv] tJ (0, 0))
  kown : wr.ownsRow (w.heap.size + 3) sK 1 ks keys.length (strCells keys)
  lown : ∃ D, OwnsJ wr (w.heap.size + 3) D lv acc ∧ ∀ g, ks.ownBlock = some g → ¬ D g
theorem ItemsAt.but {w wr w' : World} {R : Nat} {kind nest : Int} {ks lv : Value} {keys : List ByteArray} {acc : List Js} {l l' : List UInt8} {ev ev' : Value} (h : ItemsAt w wr R kind nest ks lv keys acc l ev) (hs : Steps wr w' R l' nest ev') (hR : R < w.heap.size) : ItemsAt w w' R kind nest ks lv keys acc l' ev' := by
  have lt : ∀ {k : Nat} {o : Obj}, wr.heap[k]? = some o → k < wr.heap.size := fun h => (Array.getElem?_eq_some_iff.1 h).1
  obtain ⟨D, h1, h2⟩ := h.lown
  exact ⟨but_trans h.low hs.2 h.low.size, hs.1, (hs.2.block _ (lt h.box) (by omega)).trans h.box, (hs.2.block _ (lt h.res) (by omega)).trans h.res, (hs.2.block _ (lt h.val) (by omega)).trans h.val,
    own_same h.kown (fun g hg => hs.2.block g (h.kown.lt g hg).2 (by have := (h.kown.lt g hg).1; omega)), D, h1.but hs.2 (by omega), h2⟩
theorem rows_apart {w : World} {b1 b2 : Nat} {e1 e2 : TypeId} {k1 k2 : Nat} {v1 v2 : Value} {n1 n2 : Nat} {x1 x2 : List Value} (h1 : w.ownsRow b1 e1 k1 v1 n1 x1) (h2 : w.ownsRow b2 e2 k2 v2 n2 x2) (he : e1 ≠ e2) : ∀ g, v1.ownBlock = some g → v2.ownBlock ≠ some g := by
  intro g hg
  rcases h1.2 with ⟨rfl, _⟩ | ⟨g', cap, cur, rfl, hb, hgg, rest⟩
  · simp [Value.ownBlock] at hg
  · have : g' = g := by simpa [Value.ownBlock] using hg
    subst this
    exact apart_cells h2 hgg he
theorem OwnsJ.apart_row {w : World} {base b2 : Nat} {D : Nat → Prop} {v v2 : Value} {l : List Js} {e2 : TypeId} {k2 n2 : Nat} {x2 : List Value} (h : OwnsJ w base D v l) (h2 : w.ownsRow b2 e2 k2 v2 n2 x2) (he : tJ ≠ e2) : ∀ g, v.ownBlock = some g → v2.ownBlock ≠ some g := by
  obtain ⟨css, h1, h3, h4⟩ := h.row
  exact rows_apart h3 h2 he
/-- Behind a key. -/
theorem ItemsAt.key {w wr w' : World} {R : Nat} {kind nest : Int} {ks lv ks' : Value} {keys keys' : List ByteArray} {acc : List Js} {l q : List UInt8} {ev ev' : Value} (h : ItemsAt w wr R kind nest ks lv keys acc l ev) (hR : R < w.heap.size) (hr : RdAt w' R q nest ev')
    (hX : w'.heap[w.heap.size + 1 + 1]? = some (.cells #[.int .i64 kind, .bool false, .int .i64 0, .string ⟨#[]⟩, ks', lv] tJ (0, 0))) (hk : w'.ownsRow (w.heap.size + 3) sK 1 ks' keys'.length (strCells keys')) (hat : ks'.ownBlock = ks.ownBlock ∨ ∃ k, ks'.ownBlock = some k ∧ wr.heap.size ≤ k)
    (hb : But3 wr w' R (w.heap.size + 1 + 1) ks.ownBlock) : ItemsAt w w' R kind nest ks' lv keys' acc q ev' := by
  have lt : ∀ {k : Nat} {o : Obj}, wr.heap[k]? = some o → k < wr.heap.size := fun h => (Array.getElem?_eq_some_iff.1 h).1
  have hlo := h.low.size
  have hks : ∀ k, k < w.heap.size + 3 → ks.ownBlock ≠ some k := fun k hk e => by have := (h.kown.lt k e).1; omega
  obtain ⟨D, h1, h2⟩ := h.lown
  refine ⟨?_, hr, (hb.block _ (lt h.box) (by omega) (by omega) (hks _ (by omega))).trans h.box, (hb.block _ (lt h.res) (by omega) (by omega) (hks _ (by omega))).trans h.res, hX, hk, D, ?_, ?_⟩
  · exact ⟨hb.os.trans h.low.os, hb.tape.trans h.low.tape, hb.output.trans h.low.output, Nat.le_trans hlo hb.size, fun k hk1 hk2 => (hb.block k (by omega) hk2 (by omega) (hks k (by omega))).trans (h.low.block k hk1 hk2)⟩
  · exact h1.stay hb.size (fun b hbD => hb.block b (h1.low b hbD).2 (by have := (h1.low b hbD).1; omega) (by have := (h1.low b hbD).1; omega) (fun e => h2 b e hbD)) (fun g hg => hb.block g (h1.block g hg).2 (by have := (h1.block g hg).1; omega) (by have := (h1.block g hg).1; omega) (h1.apart_row h.kown (by decide) g hg))
  · intro g hg hD
    rcases hat with e | ⟨k, e, hk⟩
    · exact h2 g (by rw [← e]; exact hg) hD
    · rw [e] at hg
      cases hg
      have := (h1.low g hD).2
      omega

/-! ### The last item stored -/
theorem set_app {A B : List Value} {k m : Nat} (b : Value) (hm : m = A.length + k) : (A ++ B).set m b = A ++ B.set k b := by
  subst hm
  rw [List.set_append_right _ _ (by omega)]
  congr 2
  omega
def put6 (w : World) (g o : Nat) (b0 b1 b2 b3 b4 b5 : Value) : World := (((((w.setCell ⟨g, o, none⟩ b0).setCell ⟨g, o + 1, none⟩ b1).setCell ⟨g, o + 2, none⟩ b2).setCell ⟨g, o + 3, none⟩ b3).setCell ⟨g, o + 4, none⟩ b4).setCell ⟨g, o + 5, none⟩ b5
theorem put6_other {w : World} {g o k : Nat} (h : k ≠ g) (b0 b1 b2 b3 b4 b5 : Value) : (put6 w g o b0 b1 b2 b3 b4 b5).heap[k]? = w.heap[k]? :=
  (heap_setCell_other _ _ _ _ h).trans ((heap_setCell_other _ _ _ _ h).trans ((heap_setCell_other _ _ _ _ h).trans ((heap_setCell_other _ _ _ _ h).trans ((heap_setCell_other _ _ _ _ h).trans (heap_setCell_other _ _ _ _ h)))))
theorem put6_size {w : World} {g o : Nat} (b0 b1 b2 b3 b4 b5 : Value) : (put6 w g o b0 b1 b2 b3 b4 b5).heap.size = w.heap.size := by simp [put6, World.setCell]
theorem put6_same (w : World) (g o : Nat) (b0 b1 b2 b3 b4 b5 : Value) : (put6 w g o b0 b1 b2 b3 b4 b5).os = w.os ∧ (put6 w g o b0 b1 b2 b3 b4 b5).tape = w.tape ∧ (put6 w g o b0 b1 b2 b3 b4 b5).output = w.output := by simp [put6, World.setCell]
theorem set_same' (w : World) (p : Addr) (v : Value) : (w.setCell p v).os = w.os ∧ (w.setCell p v).tape = w.tape ∧ (w.setCell p v).output = w.output ∧ (w.setCell p v).heap.size = w.heap.size := ⟨rfl, rfl, rfl, by simp [World.setCell]⟩
theorem slice_block {g j n c : Nat} (h : (Value.slice (some ⟨g, 0, none⟩) n c).ownBlock = some j) : j = g := by
  have : g = j := by simpa [Value.ownBlock] using h
  exact this.symm
theorem OwnsJ.set_last {w : World} {base : Nat} {D E : Nat → Prop} {g c : Nat} {l : List Js} {x y : Js} {b0 b1 b2 b3 b4 b5 : Value} (h : OwnsJ w base D (.slice (some ⟨g, 0, none⟩) (l.length + 1) c) (l ++ [y])) (hJ : JD E w x [b0, b1, b2, b3, b4, b5]) (hE : ∀ b, E b → base ≤ b ∧ b < w.heap.size) (hEg : ¬ E g) :
    OwnsJ (put6 w g (l.length * 6) b0 b1 b2 b3 b4 b5) base (fun b => D b ∨ E b) (.slice (some ⟨g, 0, none⟩) (l.length + 1) c) (l ++ [x]) := by
  have hsz := put6_size (w := w) (g := g) (o := l.length * 6) b0 b1 b2 b3 b4 b5
  have hoth := fun k (hk : k ≠ g) => put6_other (w := w) (o := l.length * 6) hk b0 b1 b2 b3 b4 b5
  obtain ⟨css, h1, h2, h3⟩ := h.row
  have hgD : ¬ D g := h.apart g rfl
  rw [List.length_append, List.length_singleton] at h1 h2
  obtain ⟨cs0, csy, rfl⟩ : ∃ cs0 csy, css = cs0 ++ [csy] := by
    refine ⟨css.dropLast, css.getLast (by intro e; rw [e] at h1; simp at h1), ?_⟩
    exact (List.dropLast_concat_getLast _).symm
  have hc0 : cs0.length = l.length := by simpa using h1
  have hly := (h3 l.length y csy (by simp) (by rw [← hc0]; simp)).jc.len
  obtain ⟨y0, y1, y2, y3, y4, y5, rfl⟩ : ∃ y0 y1 y2 y3 y4 y5, csy = [y0, y1, y2, y3, y4, y5] := by
    match csy, hly with
    | [y0, y1, y2, y3, y4, y5], _ => exact ⟨y0, y1, y2, y3, y4, y5, rfl⟩
  have h6 : ∀ cs ∈ cs0, cs.length = 6 := fun cs hcs => by
    obtain ⟨k, hk⟩ := List.getElem?_of_mem hcs
    have hkl := (List.getElem?_eq_some_iff.1 hk).1
    exact (h3 k (l[k]'(by omega)) cs (by rw [List.getElem?_append_left (by omega)]; exact List.getElem?_eq_getElem _) (by rw [List.getElem?_append_left hkl]; exact hk)).jc.len
  have hfl : cs0.flatten.length = l.length * 6 := by
    rw [← hc0]
    clear h1 h2 h3 hc0
    induction cs0 with
    | nil => rfl
    | cons a t ih =>
      rw [List.flatten_cons, List.length_append, h6 a (by simp), ih (fun cs hcs => h6 cs (by simp [hcs])), List.length_cons]
      omega
  have hrow : (put6 w g (l.length * 6) b0 b1 b2 b3 b4 b5).ownsRow base tJ 6 (.slice (some ⟨g, 0, none⟩) (l.length + 1) c) (l.length + 1) (cs0.flatten ++ [b0, b1, b2, b3, b4, b5]) := by
    have s := ((((((h2.stored (l.length * 6) b0).1).stored (l.length * 6 + 1) b1).1.stored (l.length * 6 + 2) b2).1.stored (l.length * 6 + 3) b3).1.stored (l.length * 6 + 4) b4).1.stored (l.length * 6 + 5) b5
    have e : ((((((cs0 ++ [[y0, y1, y2, y3, y4, y5]]).flatten.set (l.length * 6) b0).set (l.length * 6 + 1) b1).set (l.length * 6 + 2) b2).set (l.length * 6 + 3) b3).set (l.length * 6 + 4) b4).set (l.length * 6 + 5) b5 = cs0.flatten ++ [b0, b1, b2, b3, b4, b5] := by
      rw [List.flatten_append, List.flatten_singleton, set_app (k := 0) b0 (by omega), set_app (k := 1) b1 (by omega), set_app (k := 2) b2 (by omega), set_app (k := 3) b3 (by omega), set_app (k := 4) b4 (by omega), set_app (k := 5) b5 (by omega)]
      rfl
    rw [e] at s
    exact s.1
  refine ⟨fun b hb => ?_, fun k hk hb => ?_, cs0 ++ [[b0, b1, b2, b3, b4, b5]], by simp [hc0], ?_, fun i z cs hz hcs => ?_⟩
  · rw [hsz]
    rcases hb with hb | hb
    · exact h.low b hb
    · exact hE b hb
  · have : g = k := by simpa [Value.ownBlock] using hk
    subst this
    exact hb.elim hgD hEg
  · rw [List.length_append, List.length_singleton, List.flatten_append, List.flatten_singleton]
    exact hrow
  · by_cases hi : i < l.length
    · rw [List.getElem?_append_left hi] at hz
      rw [List.getElem?_append_left (by omega)] at hcs
      exact ((h3 i z cs (by rw [List.getElem?_append_left hi]; exact hz) (by rw [List.getElem?_append_left (by omega)]; exact hcs)).stay (fun b hb => hoth b (fun e => hgD (e ▸ hb)))).mono (fun b hb => .inl hb)
    · rw [List.getElem?_append_right (by omega)] at hz hcs
      rw [hc0] at hcs
      have h0 : i - l.length = 0 := by
        cases hq : i - l.length with
        | zero => rfl
        | succ q => rw [hq] at hz; simp at hz
      rw [h0] at hz hcs
      simp only [List.getElem?_cons_zero, Option.some.injEq] at hz hcs
      subst hz hcs
      exact (hJ.stay (fun b hb => hoth b (fun e => hEg (e ▸ hb)))).mono (fun b hb => .inr hb)
theorem noJs_JD (w : World) : JD (fun _ => False) w noJs [.int .i64 0, .bool false, .int .i64 0, .string ByteArray.empty, .slice none 0 0, .slice none 0 0] := fun w' _ => noJs_JC w'
/-- A value is appended to the items. -/
theorem ItemsAt.pushed {w w8 : World} {R : Nat} {kind nest : Int} {ks lv : Value} {keys : List ByteArray} {acc : List Js} {q : List UInt8} {ev : Value} {x : Js} {E : Nat → Prop} {b0 b1 b2 b3 b4 b5 : Value} {g0 : Nat} (h : ItemsAt w w8 R kind nest ks lv keys acc q ev) (hR : R < w.heap.size) (hl : acc.length ≤ 100000000)
    (hg0 : w8.heap[g0]? = some (.cells #[.int .i64 0, .bool false, .int .i64 0, .string ByteArray.empty, .slice none 0 0, .slice none 0 0] tJ (0, 0))) (hJ : JD E w8 x [b0, b1, b2, b3, b4, b5]) (hE : ∀ b, E b → w.heap.size + 3 ≤ b ∧ b < w8.heap.size)
    (hEl : ∀ k, lv.ownBlock = some k → ¬ E k) (hEk : ∀ k, ks.ownBlock = some k → ¬ E k) :
    ∃ g c w9, (Builtin.append_ #[23, 23] 23 #[lv, .slice (some ⟨g0, 0, none⟩) 1 1]).run Tryz.prog w8 = .ok (.slice (some ⟨g, 0, none⟩) (acc.length + 1) c) w9 ∧ acc.length + 1 ≤ c ∧
      w9.heap[w.heap.size + 1 + 1]? = some (.cells #[.int .i64 kind, .bool false, .int .i64 0, .string ⟨#[]⟩, ks, lv] tJ (0, 0)) ∧ (∃ ys : List Value, ys.length = 6 ∧ ∀ j u, ys[j]? = some u → w9.cell? ⟨g, acc.length * 6 + j, none⟩ = some u) ∧
      (∀ j, w9.frozen? ⟨g, j, none⟩ = false) ∧ g < w9.heap.size ∧ g ≠ w.heap.size + 1 + 1 ∧
      ItemsAt w ((put6 w9 g (acc.length * 6) b0 b1 b2 b3 b4 b5).setCell ⟨w.heap.size + 1 + 1, 5, none⟩ (.slice (some ⟨g, 0, none⟩) (acc.length + 1) c)) R kind nest ks (.slice (some ⟨g, 0, none⟩) (acc.length + 1) c) keys (acc ++ [x]) q ev ∧
      ItemsAt w (put6 (w9.setCell ⟨w.heap.size + 1 + 1, 5, none⟩ (.slice (some ⟨g, 0, none⟩) (acc.length + 1) c)) g (acc.length * 6) b0 b1 b2 b3 b4 b5) R kind nest ks (.slice (some ⟨g, 0, none⟩) (acc.length + 1) c) keys (acc ++ [x]) q ev := by
  have lt : ∀ {k : Nat} {o : Obj}, w8.heap[k]? = some o → k < w8.heap.size := fun h => (Array.getElem?_eq_some_iff.1 h).1
  have hlo := h.low.size
  have hX8 := lt h.val
  obtain ⟨D, h1, h2⟩ := h.lown
  obtain ⟨A, c, w9, hrun, hO9, hgr, hat⟩ := push_js (E := fun _ => False) (cs := [.int .i64 0, .bool false, .int .i64 0, .string ByteArray.empty, .slice none 0 0, .slice none 0 0]) hg0 (noJs_JD w8) (fun _ h => h.elim) (fun _ _ h => h) h1 (by omega) (by omega)
  have hD9 : OwnsJ w9 (w.heap.size + 3) D (.slice A (acc.length + 1) c) (acc ++ [noJs]) := ⟨fun b hb => hO9.low b (.inl hb), fun g hg hD => hO9.apart g hg (.inl hD), by
    obtain ⟨css, k1, k2, k3⟩ := hO9.row
    exact ⟨css, k1, k2, fun i y cs hy hcs => (k3 i y cs hy hcs).mono (fun b hb => hb.elim id False.elim)⟩⟩
  obtain ⟨css, k1, k2, k3⟩ := hD9.row
  rw [List.length_append, List.length_singleton] at k1 k2
  obtain ⟨A', c', eA, hc, hg⟩ := own_form k2
  simp only [Value.slice.injEq, true_and] at eA
  obtain ⟨rfl, rfl⟩ := eA
  obtain ⟨g, rfl, hgb, hgl, hcell⟩ := hg (by omega)
  have hlvne : ∀ k, k < w.heap.size + 3 → lv.ownBlock ≠ some k := fun k hk e => by have := (h1.block k e).1; omega
  have hb9 : ∀ k, k < w8.heap.size → lv.ownBlock ≠ some k → w9.heap[k]? = w8.heap[k]? := fun k hk hne => hgr.block k hk (fun e => hne e.symm)
  have hX9 := (hb9 _ hX8 (hlvne _ (by omega))).trans h.val
  have hk9 : w9.ownsRow (w.heap.size + 3) sK 1 ks keys.length (strCells keys) := own_same h.kown (fun j hj => hb9 j (h.kown.lt j hj).2 (fun e => h1.apart_row h.kown (by decide) j e hj))
  have hgk : ks.ownBlock ≠ some g := fun e => hD9.apart_row hk9 (by decide) g rfl e
  have hEg : ¬ E g := fun hEg => by
    rcases hat with e | e
    · exact hEl g e.symm hEg
    · have : g = w8.heap.size := by simpa [Value.ownBlock] using e
      have := (hE g hEg).2
      omega
  have hE9 : ∀ b, E b → w.heap.size + 3 ≤ b ∧ b < w9.heap.size := fun b hb => ⟨(hE b hb).1, by have := (hE b hb).2; have := hgr.size; omega⟩
  have hJ9 : JD E w9 x [b0, b1, b2, b3, b4, b5] := hJ.stay (fun b hb => hb9 b (hE b hb).2 (fun e => hEl b e hb))
  have hgX : g ≠ w.heap.size + 1 + 1 := by omega
  have fin : ∀ w10 : World, w10.os = w9.os → w10.tape = w9.tape → w10.output = w9.output → w10.heap.size = w9.heap.size → (∀ k, k ≠ g → k ≠ w.heap.size + 1 + 1 → w10.heap[k]? = w9.heap[k]?) →
      w10.heap[w.heap.size + 1 + 1]? = some (.cells #[.int .i64 kind, .bool false, .int .i64 0, .string ⟨#[]⟩, ks, .slice (some ⟨g, 0, none⟩) (acc.length + 1) c] tJ (0, 0)) → OwnsJ w10 (w.heap.size + 3) (fun b => D b ∨ E b) (.slice (some ⟨g, 0, none⟩) (acc.length + 1) c) (acc ++ [x]) →
      ItemsAt w w10 R kind nest ks (.slice (some ⟨g, 0, none⟩) (acc.length + 1) c) keys (acc ++ [x]) q ev := fun w10 e1 e2 e3 es hoth hX hO => by
    have low : ∀ k, k < w.heap.size + 2 → w10.heap[k]? = w8.heap[k]? := fun k hk => (hoth k (by omega) (by omega)).trans (hb9 k (by omega) (hlvne k (by omega)))
    refine ⟨⟨e1.trans (hgr.os.trans h.low.os), e2.trans (hgr.tape.trans h.low.tape), e3.trans (hgr.output.trans h.low.output), by have := hgr.size; omega, fun k hk1 hk2 => (low k (by omega)).trans (h.low.block k hk1 hk2)⟩, (low R (by omega)).trans h.rd, (low _ (by omega)).trans h.box, (low _ (by omega)).trans h.res, hX, ?_, _, hO, ?_⟩
    · exact own_same hk9 (fun j hj => hoth j (fun e => hgk (e ▸ hj)) (by have := (hk9.lt j hj).1; omega))
    · exact fun j hj hD => hD.elim (h2 j hj) (hEk j hj)
  have hX10 : ∀ W : World, W.heap[w.heap.size + 1 + 1]? = some (.cells #[.int .i64 kind, .bool false, .int .i64 0, .string ⟨#[]⟩, ks, lv] tJ (0, 0)) → ∀ u, (W.setCell ⟨w.heap.size + 1 + 1, 5, none⟩ u).heap[w.heap.size + 1 + 1]? = some (.cells #[.int .i64 kind, .bool false, .int .i64 0, .string ⟨#[]⟩, ks, u] tJ (0, 0)) := fun W hW u => by
    rw [heap_setCell_same W _ 5 _ _ _ hW]
    simp
  have hys : ∃ ys : List Value, ys.length = 6 ∧ ∀ j u, ys[j]? = some u → w9.cell? ⟨g, acc.length * 6 + j, none⟩ = some u := by
    have h6 : ∀ cs ∈ css, cs.length = 6 := fun cs hcs => by
      obtain ⟨k, hk⟩ := List.getElem?_of_mem hcs
      have hkl := (List.getElem?_eq_some_iff.1 hk).1
      exact (k3 k _ cs (List.getElem?_eq_getElem (l := acc ++ [noJs]) (i := k) (by simp; omega)) hk).jc.len
    have hlt : acc.length < css.length := by omega
    have hcs := List.getElem?_eq_getElem hlt
    refine ⟨css[acc.length], h6 _ (List.getElem_mem hlt), fun j u hu => ?_⟩
    have := hcell _ u (flat_at h6 acc.length j _ u hcs hu)
    rw [Nat.zero_add] at this
    exact this
  refine ⟨g, c, w9, hrun, hc, hX9, hys, fun j => k2.frozenAt j, hgl, hgX, ?_, ?_⟩
  · obtain ⟨o1, o2, o3⟩ := put6_same w9 g (acc.length * 6) b0 b1 b2 b3 b4 b5
    obtain ⟨p1, p2, p3, p4⟩ := set_same' (put6 w9 g (acc.length * 6) b0 b1 b2 b3 b4 b5) ⟨w.heap.size + 1 + 1, 5, none⟩ (.slice (some ⟨g, 0, none⟩) (acc.length + 1) c)
    have hps := put6_size (w := w9) (g := g) (o := acc.length * 6) b0 b1 b2 b3 b4 b5
    have s := OwnsJ.set_last hD9 hJ9 hE9 hEg
    have hpX := (put6_other (w := w9) (g := g) (o := acc.length * 6) (Ne.symm hgX) b0 b1 b2 b3 b4 b5).trans hX9
    have hpo := fun k (hk : k ≠ g) => put6_other (w := w9) (o := acc.length * 6) hk b0 b1 b2 b3 b4 b5
    generalize put6 w9 g (acc.length * 6) b0 b1 b2 b3 b4 b5 = W at *
    refine fin _ (p1.trans o1) (p2.trans o2) (p3.trans o3) (p4.trans hps) (fun k h3 h4 => (heap_setCell_other _ _ _ _ h4).trans (hpo k h3)) (hX10 _ hpX _) ?_
    refine s.stay (by omega) (fun b hb => heap_setCell_other _ _ _ _ ?_) (fun j hj => heap_setCell_other _ _ _ _ ?_)
    · have := (s.low b hb).1
      show b ≠ w.heap.size + 1 + 1
      omega
    · have := slice_block hj
      show j ≠ w.heap.size + 1 + 1
      omega
  · obtain ⟨p1, p2, p3, p4⟩ := set_same' w9 ⟨w.heap.size + 1 + 1, 5, none⟩ (.slice (some ⟨g, 0, none⟩) (acc.length + 1) c)
    have hsX := hX10 _ hX9 (.slice (some ⟨g, 0, none⟩) (acc.length + 1) c)
    have hso := fun k (hk : k ≠ w.heap.size + 1 + 1) => heap_setCell_other w9 ⟨w.heap.size + 1 + 1, 5, none⟩ k (.slice (some ⟨g, 0, none⟩) (acc.length + 1) c) hk
    generalize w9.setCell ⟨w.heap.size + 1 + 1, 5, none⟩ (.slice (some ⟨g, 0, none⟩) (acc.length + 1) c) = W at *
    have hO' : OwnsJ W (w.heap.size + 3) D (.slice (some ⟨g, 0, none⟩) (acc.length + 1) c) (acc ++ [noJs]) :=
      hD9.stay (by omega) (fun b hb => hso b (by have := (hD9.low b hb).1; omega)) (fun j hj => hso j (by have := slice_block hj; omega))
    have hJ' : JD E W x [b0, b1, b2, b3, b4, b5] := hJ9.stay (fun b hb => hso b (by have := (hE b hb).1; omega))
    have s := OwnsJ.set_last hO' hJ' (by rw [p4]; exact hE9) hEg
    obtain ⟨o1, o2, o3⟩ := put6_same W g (acc.length * 6) b0 b1 b2 b3 b4 b5
    have hps := put6_size (w := W) (g := g) (o := acc.length * 6) b0 b1 b2 b3 b4 b5
    have hpo := fun k (hk : k ≠ g) => put6_other (w := W) (o := acc.length * 6) hk b0 b1 b2 b3 b4 b5
    generalize put6 W g (acc.length * 6) b0 b1 b2 b3 b4 b5 = W' at *
    exact fin W' (o1.trans p1) (o2.trans p2) (o3.trans p3) (hps.trans p4) (fun k h3 h4 => (hpo k h3).trans (hso k h4)) ((hpo _ (Ne.symm hgX)).trans hsX) s
end Go.Proofs.YtamclieppbnpiabGreatDoor
