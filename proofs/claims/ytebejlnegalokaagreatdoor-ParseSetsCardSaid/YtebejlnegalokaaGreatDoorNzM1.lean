/-
  XNdP, turned: what this seat needs of it.
-/
import Derived.Test.YtebejlnegalokaaGreatDoorProg
import Derived.Test.YtebejlnegalokaaGreatDoorReg
import Derived.WalkKit
import Derived.WalkSpells
import Derived.WalkLawsBesides
import Derived.Lib.Hide
import Derived.Lib.MinMax
import Derived.Deep.QuietTactic
import Derived.BigQuiet
import Derived.OwnWalk
import Derived.Deep.AppendLies
import Derived.KernelRfl
import Derived.WalkKit
import Derived.Test.YtebejlnegalokaaGreatDoorBytes
import Derived.Test.YtebejlnegalokaaGreatDoorPaLay
import Derived.Laws.OwnMore
import Derived.Test.YtebejlnegalokaaGreatDoorMapI
import Derived.Deep.RegionWith
import Derived.Deep.CutBlock
set_option linter.unusedSimpArgs false
set_option linter.unusedVariables false
namespace Go.Proofs.YtebejlnegalokaaGreatDoor.Nz
open Go.RowKit
structure Nd where
  kind : Int
  text : ByteArray
  kids : List Int
deriving DecidableEq
/-- What a node of a kind has: how many kids, at least and at most, and whether a text. -/
def formAt (k : Int) : Option (Nat × Nat × Bool) :=
  if k = 11 then some (1, 1048576, false) else
  if k = 7 then some (3, 3, false) else
  if k = 12 then some (2, 2, false) else
  if k = 6 then some (2, 2, false) else
  if k = 10 then some (1, 1, true) else
  if k = 8 then some (1, 1, true) else
  if k = 5 then some (1, 1, false) else
  if k = 13 then some (0, 0, true) else
  if k = 14 then some (0, 0, true) else
  if k = 9 then some (0, 0, true) else
  if k = 4 then some (0, 0, true) else
  if k = 3 then some (0, 0, true) else
  if k = 2 then some (0, 0, true) else
  if k = 1 then some (0, 0, true) else none
def formOk (x : Nd) : Bool := match formAt x.kind with
  | none => false
  | some (a, b, h) => decide (a ≤ x.kids.length) && decide (x.kids.length ≤ b) && (decide (0 < x.text.size) == h)
def kidsOk (i : Int) : Int → List Int → Bool
  | _, [] => true
  | last, k :: ks => decide (last < k) && decide (k < i) && kidsOk i k ks
def nodesOk : Int → List Nd → Bool
  | _, [] => true
  | i, x :: t => kidsOk i (-1) x.kids && formOk x && nodesOk (i + 1) t
def kidsAll (t : List Nd) : List Int := t.flatMap (·.kids)
/-- Are these nodes a tree? -/
def rightN (t : List Nd) : Bool :=
  decide (1 ≤ t.length) && decide (t.length ≤ 400) && nodesOk 0 t && (List.range (t.length - 1)).all fun j => (kidsAll t).count (j : Int) == 1
def hexOf (n : Nat) : UInt8 := if n < 10 then UInt8.ofNat (48 + n) else UInt8.ofNat (87 + n)
def wordOf (s : List UInt8) : List UInt8 := s.flatMap fun c =>
  if c < 0x21 || c > 0x7e || c == 37 || c == 40 || c == 41 || c == 58 then [37, hexOf (c.toNat / 16), hexOf (c.toNat % 16)] else [c]
def digitsOf (n : Int) : List UInt8 := if n > 9 then [49, UInt8.ofNat (48 + (n % 10).toNat)] else [UInt8.ofNat (48 + n.toNat)]
def nodeAt (t : List Nd) (i : Nat) : Nd := t.getD i ⟨0, ByteArray.empty, []⟩
def showF (t : List Nd) : Nat → Nat → List UInt8
  | 0, _ => []
  | f + 1, i =>
    let x := nodeAt t i
    let s := digitsOf x.kind ++ 58 :: wordOf x.text.data.toList
    if x.kids = [] then s else 40 :: (s ++ x.kids.flatMap (fun k => 32 :: showF t f k.toNat) ++ [41])
def showAt (t : List Nd) (i : Nat) : List UInt8 := showF t (i + 1) i
def deepF (t : List Nd) : Nat → Nat → Nat
  | 0, _ => 0
  | f + 1, i => (nodeAt t i).kids.foldl (fun n k => max n (deepF t f k.toNat)) 0 + 1
def deepAt (t : List Nd) (i : Nat) : Nat := deepF t (i + 1) i
def firstF (t : List Nd) : Nat → Nat → Nat
  | 0, i => i
  | f + 1, i => (nodeAt t i).kids.foldl (fun n k => min n (firstF t f k.toNat)) i
def firstAt (t : List Nd) (i : Nat) : Nat := firstF t (i + 1) i
/-- The places of a node's tree, its own last. -/
def placesF (t : List Nd) : Nat → Nat → List Nat
  | 0, i => [i]
  | f + 1, i => (nodeAt t i).kids.flatMap (fun k => placesF t f k.toNat) ++ [i]
def showN (t : List Nd) : ByteArray := if rightN t then ⟨(showAt t (t.length - 1)).toArray⟩ else ByteArray.empty
def deepN (t : List Nd) : Nat := if rightN t then deepAt t (t.length - 1) else 0
def movedN (by_ : Int) (t : List Nd) : List Nd := t.map fun x => { x with kids := x.kids.map (· + by_) }
/-- Trees behind nodes; the places of their last ones. -/
def joinGo : List Nd → List Int → List (List Nd) → Option (List Nd × List Int)
  | out, ks, [] => some (out, ks)
  | out, ks, t :: l => if rightN t then joinGo (out ++ movedN out.length t) (ks ++ [((out ++ movedN out.length t).length : Int) - 1]) l else none
def joinN (kind : Int) (text : ByteArray) (l : List (List Nd)) : Option (List Nd) := match joinGo [] [] l with
  | none => none
  | some (out, ks) => if rightN (out ++ [⟨kind, text, ks⟩]) then some (out ++ [⟨kind, text, ks⟩]) else none
def rootKids (t : List Nd) : List Int := (nodeAt t (t.length - 1)).kids
def kidOf (t : List Nd) (n : Nat) : List Nd :=
  let at_ := ((rootKids t).getD n 0).toNat
  movedN (-(firstAt t at_ : Int)) ((t.drop (firstAt t at_)).take (at_ + 1 - firstAt t at_))
def kidN (t : List Nd) (n : Int) : Option (List Nd) :=
  if rightN t = true ∧ 0 ≤ n ∧ n < (rootKids t).length then (if rightN (kidOf t n.toNat) then some (kidOf t n.toNat) else none) else none
theorem kidsOk_mem {i : Int} : ∀ {last : Int} {ks : List Int}, kidsOk i last ks = true → ∀ k ∈ ks, last < k ∧ k < i
  | last, [], _, k, hk => by simp at hk
  | last, c :: ks, h, k, hk => by
    simp only [kidsOk, Bool.and_eq_true, decide_eq_true_eq] at h
    obtain ⟨⟨h1, h2⟩, h3⟩ := h
    rcases List.mem_cons.1 hk with rfl | hk
    · exact ⟨h1, h2⟩
    · have := kidsOk_mem h3 k hk
      exact ⟨by omega, this.2⟩
theorem nodesOk_at : ∀ {t : List Nd} {i : Int} {j : Nat} {x : Nd}, nodesOk i t = true → t[j]? = some x → kidsOk (i + j) (-1) x.kids = true ∧ formOk x = true
  | [], i, j, x, h, hx => by simp at hx
  | y :: t, i, 0, x, h, hx => by
    simp at hx
    subst hx
    simp only [nodesOk, Bool.and_eq_true] at h
    exact ⟨by simpa using h.1.1, h.1.2⟩
  | y :: t, i, j + 1, x, h, hx => by
    simp only [nodesOk, Bool.and_eq_true] at h
    have := nodesOk_at (j := j) h.2 (by simpa using hx)
    refine ⟨?_, this.2⟩
    have e : i + ((j + 1 : Nat) : Int) = i + 1 + (j : Int) := by omega
    rw [e]
    exact this.1
theorem rightN_parts {t : List Nd} (h : rightN t = true) : 1 ≤ t.length ∧ t.length ≤ 400 ∧ nodesOk 0 t = true ∧ ∀ j, j + 1 < t.length → (kidsAll t).count (j : Int) = 1 := by
  unfold rightN at h
  simp only [Bool.and_eq_true, decide_eq_true_eq, List.all_eq_true, List.mem_range, beq_iff_eq] at h
  exact ⟨h.1.1.1, h.1.1.2, h.1.2, fun j hj => h.2 j (by omega)⟩
theorem nodeAt_some {t : List Nd} {i : Nat} {x : Nd} (h : t[i]? = some x) : nodeAt t i = x := by simp [nodeAt, h]
end Go.Proofs.YtebejlnegalokaaGreatDoor.Nz
/-
  XNdH, turned: what this seat needs of it.
-/
namespace Go.Proofs.YtebejlnegalokaaGreatDoor.Nz
open Go.RowKit
theorem cell_lt {w : World} {p : Addr} {v : Value} (h : w.cell? p = some v) : p.block < w.heap.size := by
  rcases Nat.lt_or_ge p.block w.heap.size with h1 | h1
  · exact h1
  · simp [World.cell?, Array.getElem?_eq_none h1] at h
theorem bytes_app (a b : ByteArray) : (a ++ b).data.toList = a.data.toList ++ b.data.toList := by
  rw [ByteArray.data_append]; exact Array.toList_append
theorem bytes_eq {a b : ByteArray} (h : a.data.toList = b.data.toList) : a = b := by
  obtain ⟨⟨x⟩⟩ := a; obtain ⟨⟨y⟩⟩ := b; simp at h; rw [h]
theorem bytes_len (s : ByteArray) : s.data.toList.length = s.size := rfl
theorem empty_is {u : ByteArray} (h : u.size = 0) : u.toList.isEmpty = true := by
  rw [ByteArray.toList_eq]
  have : u.data.toList.length = 0 := by rw [bytes_len]; exact h
  rw [List.length_eq_zero_iff.1 this]
  rfl
theorem empty_not {u : ByteArray} (h : 0 < u.size) : u.toList.isEmpty = false := by
  rw [ByteArray.toList_eq]
  have : u.data.toList.length = u.size := bytes_len u
  cases hl : u.data.toList with
  | nil => rw [hl] at this; simp at this; omega
  | cons a l => rfl
theorem below_drewN {B : Nat} {a w : World} (h : Below B a w) (n : Nat) : Below B a (w.drewN n) := ⟨h.os, h.tape, h.output, h.size, h.block⟩
theorem grown_of_below {w w' : World} (h : Below w.heap.size w w') : w.grownBy w' none := ⟨h.os, h.tape, h.output, h.size, fun k hk _ => h.block k hk⟩
theorem own_below {w w' : World} {base : Nat} {e : TypeId} {size : Nat} {v : Value} {n : Nat} {xs : List Value} (h : w.ownsRow base e size v n xs) (hb : Below w.heap.size w w') : w'.ownsRow base e size v n xs :=
  h.kept (grown_of_below hb) (by cases hv : v.ownBlock <;> simp)
theorem ownBlock_lt {w : World} {base : Nat} {e : TypeId} {size : Nat} {v : Value} {n : Nat} {xs : List Value} (h : w.ownsRow base e size v n xs) : ∀ k, v.ownBlock = some k → k < w.heap.size := fun k hk => (h.lt k hk).2
/-- The slice value '.slice A n c' holds, in w, the numbers l. -/
def HoldsI (w : World) (A : Option Addr) (l : List Int) : Prop :=
  ∀ (k : Nat) (x : Int), l[k]? = some x → ∃ b off, A = some ⟨b, off, none⟩ ∧ w.cell? ⟨b, off + k, none⟩ = some (.int .i64 x)
theorem HoldsI.below {w w' : World} {A : Option Addr} {l : List Int} (h : HoldsI w A l) (hb : Below w.heap.size w w') : HoldsI w' A l := fun k x hx => by
  obtain ⟨b, off, e, h1⟩ := h k x hx
  have hl : b < w.heap.size := cell_lt h1
  exact ⟨b, off, e, (hb.cell (p := ⟨b, _, none⟩) hl).trans h1⟩
theorem HoldsI.drewN {w : World} {A : Option Addr} {l : List Int} (h : HoldsI w A l) (n : Nat) : HoldsI (w.drewN n) A l := h
theorem HoldsI.nil (w : World) (A : Option Addr) : HoldsI w A [] := fun k x hx => by simp at hx
def intCells (l : List Int) : List Value := l.map (Value.int .i64)
theorem intCells_length (l : List Int) : (intCells l).length = l.length := by simp [intCells]
theorem intCells_append (l m : List Int) : intCells (l ++ m) = intCells l ++ intCells m := by simp [intCells]
theorem addr_add0 (g j : Nat) : (⟨g, 0, none⟩ : Addr).add j = ⟨g, 0 + j, none⟩ := by
  unfold Addr.add
  split
  · rename_i h; subst h; rfl
  · rfl
theorem holdsI_of_own {w : World} {base : Nat} {e : TypeId} {v : Value} {n : Nat} {l : List Int} (h : w.ownsRow base e 1 v n (intCells l)) :
    ∃ A c, v = .slice A l.length c ∧ n = l.length ∧ HoldsI w A l ∧ l.length ≤ c := by
  have hn : n = l.length := by have h1 := h.1; rw [intCells_length] at h1; omega
  subst hn
  rcases h.2 with ⟨rfl, h0⟩ | ⟨g, cap, cur, rfl, _, _, hcap, _⟩
  · have : l = [] := List.eq_nil_of_length_eq_zero h0
    subst this
    exact ⟨none, 0, rfl, rfl, HoldsI.nil _ _, Nat.le_refl _⟩
  · refine ⟨some ⟨g, 0, none⟩, cap, rfl, rfl, fun k x hx => ?_, hcap⟩
    have hc := h.cells (g := g) rfl
    have h1 : (intCells l)[k]? = some (.int .i64 x) := by simp [intCells, hx]
    have c1 := hc _ _ h1
    rw [addr_add0] at c1
    exact ⟨g, 0, rfl, c1⟩
/-- One node lies at place ⟨b, o⟩. -/
def NodeLies (w : World) (b o : Nat) (x : Nd) : Prop :=
  w.cell? ⟨b, o, none⟩ = some (.int .i64 x.kind) ∧ w.cell? ⟨b, o + 1, none⟩ = some (.string x.text) ∧
    ∃ B c, w.cell? ⟨b, o + 2, none⟩ = some (.slice B x.kids.length c) ∧ HoldsI w B x.kids ∧ x.kids.length ≤ c
/-- The slice value '.slice A n c' holds, in w, the nodes l. -/
def HoldsN (w : World) (A : Option Addr) (l : List Nd) : Prop :=
  ∀ (k : Nat) (x : Nd), l[k]? = some x → ∃ b off, A = some ⟨b, off, none⟩ ∧ NodeLies w b (off + k * 3) x
theorem NodeLies.below {w w' : World} {b o : Nat} {x : Nd} (h : NodeLies w b o x) (hb : Below w.heap.size w w') : NodeLies w' b o x := by
  obtain ⟨h1, h2, B, c, h3, h4, h5⟩ := h
  have hl : b < w.heap.size := cell_lt h1
  exact ⟨(hb.cell (p := ⟨b, _, none⟩) hl).trans h1, (hb.cell (p := ⟨b, _, none⟩) hl).trans h2, B, c, (hb.cell (p := ⟨b, _, none⟩) hl).trans h3, h4.below hb, h5⟩
theorem HoldsN.below {w w' : World} {A : Option Addr} {l : List Nd} (h : HoldsN w A l) (hb : Below w.heap.size w w') : HoldsN w' A l := fun k x hx => by
  obtain ⟨b, off, e, h1⟩ := h k x hx
  exact ⟨b, off, e, h1.below hb⟩
theorem HoldsN.drewN {w : World} {A : Option Addr} {l : List Nd} (h : HoldsN w A l) (n : Nat) : HoldsN (w.drewN n) A l := h
theorem HoldsN.nil (w : World) (A : Option Addr) : HoldsN w A [] := fun k x hx => by simp at hx
/-- All kinds are ints. -/
def IntN (l : List Nd) : Prop := ∀ x ∈ l, (Lit.int .i64 x.kind).wf = true ∧ x.kids.length ≤ 1000 ∧ x.text.size ≤ 1000000 ∧ ∀ k ∈ x.kids, (Lit.int .i64 k).wf = true
end Go.Proofs.YtebejlnegalokaaGreatDoor.Nz
/-
  XNdA, turned: what this seat needs of it.
-/
namespace Go.Proofs.YtebejlnegalokaaGreatDoor.Nz
open Go.RowKit
def formV (f : Nat × Nat × Bool) : Value := .agg #[.int .i64 f.1, .int .i64 f.2.1, .bool f.2.2]
set_option maxRecDepth 100000 in
set_option maxHeartbeats 8000000 in
theorem forms_any (w : World) :
    Calls Tryz.prog 67 #[] w fun r w' => r = .returned (.map (some (w.heap.size + 2))) ∧ MapIsI w' Tryz.prog 3 (w.heap.size + 2) 14 (fun k => (formAt k).map formV) ∧ Below w.heap.size w w' := by
  have hmm := @run_makeMap Tryz.prog
  have hk := Tryz.underlying3
  have ht := Tryz.underlying100
  obtain ⟨u, hu⟩ : ∃ u : World, u = (w.alloc (.cells #[.int .i64 0, .int .i64 0, .bool true] 99)).alloc (.cells #[.int .i64 1, .int .i64 1, .bool true] 99) := ⟨_, rfl⟩
  have hus : u.heap.size = w.heap.size + 2 := by rw [hu]; simp
  have hub : Below w.heap.size w u := by rw [hu]; exact ((Below.refl _ _).alloc (Nat.le_refl _) _).alloc (by simp) _
  have hm0 := MapIsI.made u Tryz.prog 3
  rw [hus] at hm0
  have hb0 : Below w.heap.size w (u.alloc (.map #[] 0)) := hub.alloc hub.size _
  have a0 : (u.alloc (.map #[] 0)).heap[w.heap.size]? = some (.cells #[.int .i64 0, .int .i64 0, .bool true] 99 (0, 0)) := by
    have h1 := heap_alloc_new w (.cells #[.int .i64 0, .int .i64 0, .bool true] 99)
    rw [hu]
    exact ((World.grownBy_alloc _ _ none).block _ (by simp; omega) (by simp)).trans (((World.grownBy_alloc _ _ none).block _ (by simp) (by simp)).trans h1)
  have b0 : (u.alloc (.map #[] 0)).heap[w.heap.size + 1]? = some (.cells #[.int .i64 1, .int .i64 1, .bool true] 99 (0, 0)) := by
    have h1 := heap_alloc_new (w.alloc (.cells #[.int .i64 0, .int .i64 0, .bool true] 99)) (.cells #[.int .i64 1, .int .i64 1, .bool true] 99)
    rw [World.size_alloc] at h1
    rw [hu]
    exact ((World.grownBy_alloc _ _ none).block _ (by simp) (by simp)).trans h1
  have st : ∀ {p q : World}, Below w.heap.size w p → p.grownBy q (some (w.heap.size + 2)) → Below w.heap.size w q := fun hp hg => hp.grown hg hp.size (fun k hk => by cases hk; omega)
  have sa : ∀ {p q : World} {o : Obj}, p.heap[w.heap.size]? = some o → p.grownBy q (some (w.heap.size + 2)) → q.heap[w.heap.size]? = some o := fun hp hg => (hg.block _ (Array.getElem?_eq_some_iff.1 hp).1 (by simp)).trans hp
  have sb : ∀ {p q : World} {o : Obj}, p.heap[w.heap.size + 1]? = some o → p.grownBy q (some (w.heap.size + 2)) → q.heap[w.heap.size + 1]? = some o := fun hp hg => (hg.block _ (Array.getElem?_eq_some_iff.1 hp).1 (by simp)).trans hp
  obtain ⟨w1, r1, m1, g1⟩ := hm0.put hk ht (by unfold maxLen; omega) 1 (by decide) (.agg #[.int .i64 0, .int .i64 0, .bool true])
  have x0 : (u.alloc (.map #[] 0)).cell? ⟨w.heap.size, 0, none⟩ = some (.int .i64 0) := by simp [World.cell?, a0]
  have y0 : (u.alloc (.map #[] 0)).cell? ⟨w.heap.size, 1, none⟩ = some (.int .i64 0) := by simp [World.cell?, a0]
  have z0 : (u.alloc (.map #[] 0)).cell? ⟨w.heap.size, 2, none⟩ = some (.bool true) := by simp [World.cell?, a0]
  have a1 := sa a0 g1
  have b1 := sb b0 g1
  have hb1 := st hb0 g1
  clear a0 b0 hb0 g1
  clear hm0
  obtain ⟨w2, r2, m2, g2⟩ := m1.put hk ht (by unfold maxLen; omega) 2 (by decide) (.agg #[.int .i64 0, .int .i64 0, .bool true])
  have x1 : w1.cell? ⟨w.heap.size, 0, none⟩ = some (.int .i64 0) := by simp [World.cell?, a1]
  have y1 : w1.cell? ⟨w.heap.size, 1, none⟩ = some (.int .i64 0) := by simp [World.cell?, a1]
  have z1 : w1.cell? ⟨w.heap.size, 2, none⟩ = some (.bool true) := by simp [World.cell?, a1]
  have a2 := sa a1 g2
  have b2 := sb b1 g2
  have hb2 := st hb1 g2
  clear a1 b1 hb1 g2
  clear m1
  obtain ⟨w3, r3, m3, g3⟩ := m2.put hk ht (by unfold maxLen; omega) 3 (by decide) (.agg #[.int .i64 0, .int .i64 0, .bool true])
  have x2 : w2.cell? ⟨w.heap.size, 0, none⟩ = some (.int .i64 0) := by simp [World.cell?, a2]
  have y2 : w2.cell? ⟨w.heap.size, 1, none⟩ = some (.int .i64 0) := by simp [World.cell?, a2]
  have z2 : w2.cell? ⟨w.heap.size, 2, none⟩ = some (.bool true) := by simp [World.cell?, a2]
  have a3 := sa a2 g3
  have b3 := sb b2 g3
  have hb3 := st hb2 g3
  clear a2 b2 hb2 g3
  clear m2
  obtain ⟨w4, r4, m4, g4⟩ := m3.put hk ht (by unfold maxLen; omega) 4 (by decide) (.agg #[.int .i64 0, .int .i64 0, .bool true])
  have x3 : w3.cell? ⟨w.heap.size, 0, none⟩ = some (.int .i64 0) := by simp [World.cell?, a3]
  have y3 : w3.cell? ⟨w.heap.size, 1, none⟩ = some (.int .i64 0) := by simp [World.cell?, a3]
  have z3 : w3.cell? ⟨w.heap.size, 2, none⟩ = some (.bool true) := by simp [World.cell?, a3]
  have a4 := sa a3 g4
  have b4 := sb b3 g4
  have hb4 := st hb3 g4
  clear a3 b3 hb3 g4
  clear m3
  obtain ⟨w5, r5, m5, g5⟩ := m4.put hk ht (by unfold maxLen; omega) 9 (by decide) (.agg #[.int .i64 0, .int .i64 0, .bool true])
  have x4 : w4.cell? ⟨w.heap.size, 0, none⟩ = some (.int .i64 0) := by simp [World.cell?, a4]
  have y4 : w4.cell? ⟨w.heap.size, 1, none⟩ = some (.int .i64 0) := by simp [World.cell?, a4]
  have z4 : w4.cell? ⟨w.heap.size, 2, none⟩ = some (.bool true) := by simp [World.cell?, a4]
  have a5 := sa a4 g5
  have b5 := sb b4 g5
  have hb5 := st hb4 g5
  clear a4 b4 hb4 g5
  clear m4
  obtain ⟨w6, r6, m6, g6⟩ := m5.put hk ht (by unfold maxLen; omega) 14 (by decide) (.agg #[.int .i64 0, .int .i64 0, .bool true])
  have x5 : w5.cell? ⟨w.heap.size, 0, none⟩ = some (.int .i64 0) := by simp [World.cell?, a5]
  have y5 : w5.cell? ⟨w.heap.size, 1, none⟩ = some (.int .i64 0) := by simp [World.cell?, a5]
  have z5 : w5.cell? ⟨w.heap.size, 2, none⟩ = some (.bool true) := by simp [World.cell?, a5]
  have a6 := sa a5 g6
  have b6 := sb b5 g6
  have hb6 := st hb5 g6
  clear a5 b5 hb5 g6
  clear m5
  obtain ⟨w7, r7, m7, g7⟩ := m6.put hk ht (by unfold maxLen; omega) 13 (by decide) (.agg #[.int .i64 0, .int .i64 0, .bool true])
  have x6 : w6.cell? ⟨w.heap.size, 0, none⟩ = some (.int .i64 0) := by simp [World.cell?, a6]
  have y6 : w6.cell? ⟨w.heap.size, 1, none⟩ = some (.int .i64 0) := by simp [World.cell?, a6]
  have z6 : w6.cell? ⟨w.heap.size, 2, none⟩ = some (.bool true) := by simp [World.cell?, a6]
  have a7 := sa a6 g7
  have b7 := sb b6 g7
  have hb7 := st hb6 g7
  clear a6 b6 hb6 g7
  clear m6
  obtain ⟨w8, r8, m8, g8⟩ := m7.put hk ht (by unfold maxLen; omega) 5 (by decide) (.agg #[.int .i64 1, .int .i64 1, .bool false])
  have a8 := sa a7 g8
  have b8 := sb b7 g8
  have hb8 := st hb7 g8
  clear a7 b7 hb7 g8
  clear m7
  obtain ⟨w9, r9, m9, g9⟩ := m8.put hk ht (by unfold maxLen; omega) 8 (by decide) (.agg #[.int .i64 1, .int .i64 1, .bool true])
  have x8 : w8.cell? ⟨w.heap.size + 1, 0, none⟩ = some (.int .i64 1) := by simp [World.cell?, b8]
  have y8 : w8.cell? ⟨w.heap.size + 1, 1, none⟩ = some (.int .i64 1) := by simp [World.cell?, b8]
  have z8 : w8.cell? ⟨w.heap.size + 1, 2, none⟩ = some (.bool true) := by simp [World.cell?, b8]
  have a9 := sa a8 g9
  have b9 := sb b8 g9
  have hb9 := st hb8 g9
  clear a8 b8 hb8 g9
  clear m8
  obtain ⟨w10, r10, m10, g10⟩ := m9.put hk ht (by unfold maxLen; omega) 10 (by decide) (.agg #[.int .i64 1, .int .i64 1, .bool true])
  have x9 : w9.cell? ⟨w.heap.size + 1, 0, none⟩ = some (.int .i64 1) := by simp [World.cell?, b9]
  have y9 : w9.cell? ⟨w.heap.size + 1, 1, none⟩ = some (.int .i64 1) := by simp [World.cell?, b9]
  have z9 : w9.cell? ⟨w.heap.size + 1, 2, none⟩ = some (.bool true) := by simp [World.cell?, b9]
  have a10 := sa a9 g10
  have b10 := sb b9 g10
  have hb10 := st hb9 g10
  clear a9 b9 hb9 g10
  clear m9
  obtain ⟨w11, r11, m11, g11⟩ := m10.put hk ht (by unfold maxLen; omega) 6 (by decide) (.agg #[.int .i64 2, .int .i64 2, .bool false])
  have a11 := sa a10 g11
  have b11 := sb b10 g11
  have hb11 := st hb10 g11
  clear a10 b10 hb10 g11
  clear m10
  obtain ⟨w12, r12, m12, g12⟩ := m11.put hk ht (by unfold maxLen; omega) 12 (by decide) (.agg #[.int .i64 2, .int .i64 2, .bool false])
  have a12 := sa a11 g12
  have b12 := sb b11 g12
  have hb12 := st hb11 g12
  clear a11 b11 hb11 g12
  clear m11
  obtain ⟨w13, r13, m13, g13⟩ := m12.put hk ht (by unfold maxLen; omega) 7 (by decide) (.agg #[.int .i64 3, .int .i64 3, .bool false])
  have a13 := sa a12 g13
  have b13 := sb b12 g13
  have hb13 := st hb12 g13
  clear a12 b12 hb12 g13
  clear m12
  obtain ⟨w14, r14, m14, g14⟩ := m13.put hk ht (by unfold maxLen; omega) 11 (by decide) (.agg #[.int .i64 1, .int .i64 1048576, .bool false])
  have a14 := sa a13 g14
  have b14 := sb b13 g14
  have hb14 := st hb13 g14
  clear a13 b13 hb13 g14
  clear m13
  have HM : Hid (MapIsI w14 Tryz.prog 3 (w.heap.size + 2) 14 (fun k => (formAt k).map formV)) := Lib.hid (by
    have e : (fun k => (formAt k).map formV) = _ := funext fun k => by simp only [formAt, apply_ite (Option.map formV), Option.map_some, Option.map_none, formV]; rfl
    rw [e]
    exact m14)
  have HB := Lib.hid hb14
  clear m14 a14 b14 hb14 st sa sb hub
  subst hu
  go_enter Tryz.func67, Tryz.ntmps67
  go_wp2_with fail
  go_ret
  exact ⟨rfl, HM.out, HB.out⟩
end Go.Proofs.YtebejlnegalokaaGreatDoor.Nz
/-
  XNdB, turned: what this seat needs of it.
-/
namespace Go.Proofs.YtebejlnegalokaaGreatDoor.Nz
open Go.RowKit
/-- A node's value. -/
def Nd.value (x : Nd) (B : Option Addr) (c : Nat) : Value := .agg #[.int .i64 x.kind, .string x.text, .slice B x.kids.length c]
theorem zeroForm (w : World) : (zeroValue 99).run Tryz.prog w = .ok (.agg #[.int .i64 0, .int .i64 0, .bool false]) w := Tryz.zeroValue99 w
theorem ite_some {c : Prop} [Decidable c] {α : Type} {a x : α} {y : Option α} (h : (if c then some a else y) = some x) : x = a ∨ y = some x := by
  by_cases hc : c
  · rw [if_pos hc] at h
    exact .inl (Option.some.inj h).symm
  · rw [if_neg hc] at h
    exact .inr h
theorem formAt_some {k : Int} {a m : Nat} {h : Bool} (hf : formAt k = some (a, m, h)) : ¬ (a = 0 ∧ m = 0 ∧ h = false) ∧ m ≤ 1048576 := by
  unfold formAt at hf
  rcases ite_some hf with h | hf
  · (simp only [Prod.mk.injEq] at h; obtain ⟨rfl, rfl, rfl⟩ := h; exact ⟨by decide, by decide⟩)
  rcases ite_some hf with h | hf
  · (simp only [Prod.mk.injEq] at h; obtain ⟨rfl, rfl, rfl⟩ := h; exact ⟨by decide, by decide⟩)
  rcases ite_some hf with h | hf
  · (simp only [Prod.mk.injEq] at h; obtain ⟨rfl, rfl, rfl⟩ := h; exact ⟨by decide, by decide⟩)
  rcases ite_some hf with h | hf
  · (simp only [Prod.mk.injEq] at h; obtain ⟨rfl, rfl, rfl⟩ := h; exact ⟨by decide, by decide⟩)
  rcases ite_some hf with h | hf
  · (simp only [Prod.mk.injEq] at h; obtain ⟨rfl, rfl, rfl⟩ := h; exact ⟨by decide, by decide⟩)
  rcases ite_some hf with h | hf
  · (simp only [Prod.mk.injEq] at h; obtain ⟨rfl, rfl, rfl⟩ := h; exact ⟨by decide, by decide⟩)
  rcases ite_some hf with h | hf
  · (simp only [Prod.mk.injEq] at h; obtain ⟨rfl, rfl, rfl⟩ := h; exact ⟨by decide, by decide⟩)
  rcases ite_some hf with h | hf
  · (simp only [Prod.mk.injEq] at h; obtain ⟨rfl, rfl, rfl⟩ := h; exact ⟨by decide, by decide⟩)
  rcases ite_some hf with h | hf
  · (simp only [Prod.mk.injEq] at h; obtain ⟨rfl, rfl, rfl⟩ := h; exact ⟨by decide, by decide⟩)
  rcases ite_some hf with h | hf
  · (simp only [Prod.mk.injEq] at h; obtain ⟨rfl, rfl, rfl⟩ := h; exact ⟨by decide, by decide⟩)
  rcases ite_some hf with h | hf
  · (simp only [Prod.mk.injEq] at h; obtain ⟨rfl, rfl, rfl⟩ := h; exact ⟨by decide, by decide⟩)
  rcases ite_some hf with h | hf
  · (simp only [Prod.mk.injEq] at h; obtain ⟨rfl, rfl, rfl⟩ := h; exact ⟨by decide, by decide⟩)
  rcases ite_some hf with h | hf
  · (simp only [Prod.mk.injEq] at h; obtain ⟨rfl, rfl, rfl⟩ := h; exact ⟨by decide, by decide⟩)
  rcases ite_some hf with h | hf
  · (simp only [Prod.mk.injEq] at h; obtain ⟨rfl, rfl, rfl⟩ := h; exact ⟨by decide, by decide⟩)
  cases hf
theorem run_eql_form (a m : Nat) (h : Bool) (hne : ¬ (a = 0 ∧ m = 0 ∧ h = false)) (W : World) : (binOp .eql 99 (.agg #[.int .i64 a, .int .i64 m, .bool h]) (.agg #[.int .i64 0, .int .i64 0, .bool false])).run Tryz.prog W = .ok (.bool false) W := by
  simp only [run_eql_struct]
  by_cases h1 : a = 0
  · subst h1
    by_cases h2 : m = 0
    · subst h2
      cases h
      · exact absurd ⟨rfl, rfl, rfl⟩ hne
      · simp [go_sem]
    · simp [go_sem, h2]
  · simp [go_sem, h1]
abbrev zeroF : Obj := .cells #[.int .i64 0, .int .i64 0, .bool false] 99
theorem late_cells {u w' : World} (hbw : Below (u.alloc zeroF).drew.heap.size (u.alloc zeroF).drew w') :
    w'.cell? ⟨u.heap.size, 0, none⟩ = some (.int .i64 0) ∧ w'.cell? ⟨u.heap.size, 1, none⟩ = some (.int .i64 0) ∧ w'.cell? ⟨u.heap.size, 2, none⟩ = some (.bool false) ∧
    w'.frozen? ⟨u.heap.size, 0, none⟩ = false ∧ w'.frozen? ⟨u.heap.size, 1, none⟩ = false ∧ w'.frozen? ⟨u.heap.size, 2, none⟩ = false := by
  have hr9 : w'.heap[u.heap.size]? = some (.cells #[.int .i64 0, .int .i64 0, .bool false] 99 (0, 0)) := (hbw.block u.heap.size (show u.heap.size < (u.alloc zeroF).heap.size by simp)).trans (heap_alloc_new u _)
  exact ⟨by simp [World.cell?, hr9], by simp [World.cell?, hr9], by simp [World.cell?, hr9], frozen_of_row w' _ 0 _ _ hr9, frozen_of_row w' _ 1 _ _ hr9, frozen_of_row w' _ 2 _ _ hr9⟩
theorem late_imp {u w' : World} {G : Prop} (h : Below (u.alloc zeroF).drew.heap.size (u.alloc zeroF).drew w' → w'.cell? ⟨u.heap.size, 0, none⟩ = some (.int .i64 0) → w'.cell? ⟨u.heap.size, 1, none⟩ = some (.int .i64 0) → w'.cell? ⟨u.heap.size, 2, none⟩ = some (.bool false) →
    w'.frozen? ⟨u.heap.size, 0, none⟩ = false → w'.frozen? ⟨u.heap.size, 1, none⟩ = false → w'.frozen? ⟨u.heap.size, 2, none⟩ = false → G) : Below (u.alloc zeroF).drew.heap.size (u.alloc zeroF).drew w' → G := fun hb => by
  obtain ⟨a, b, c, d, e, f⟩ := late_cells hb
  exact h hb a b c d e f
theorem late_final {u w w' : World} {k : Nat} {R : Obj} (a b : Int) (h : Bool) (hu : w.heap.size ≤ u.heap.size) (hrow : u.heap[k]? = some R) (hb0 : Below w.heap.size w u) (hbw : Below (u.heap.size + 1) (u.alloc zeroF).drew w') :
    ∃ b9, Value.pointer (some ⟨u.heap.size, 0, none⟩) = .pointer (some ⟨b9, 0, none⟩) ∧ (((w'.setCell ⟨u.heap.size, 0, none⟩ (.int .i64 a)).setCell ⟨u.heap.size, 1, none⟩ (.int .i64 b)).setCell ⟨u.heap.size, 2, none⟩ (.bool h)).heap[b9]? = some (.cells #[.int .i64 a, .int .i64 b, .bool h] 99 (0, 0)) ∧
      (((w'.setCell ⟨u.heap.size, 0, none⟩ (.int .i64 a)).setCell ⟨u.heap.size, 1, none⟩ (.int .i64 b)).setCell ⟨u.heap.size, 2, none⟩ (.bool h)).heap[k]? = some R ∧
      Below w.heap.size w (((w'.setCell ⟨u.heap.size, 0, none⟩ (.int .i64 a)).setCell ⟨u.heap.size, 1, none⟩ (.int .i64 b)).setCell ⟨u.heap.size, 2, none⟩ (.bool h)) := by
  have hk : k < u.heap.size := (Array.getElem?_eq_some_iff.1 hrow).1
  have h1 : w'.heap[u.heap.size]? = some (.cells #[.int .i64 0, .int .i64 0, .bool false] 99 (0, 0)) := (hbw.block u.heap.size (Nat.lt_succ_self _)).trans (heap_alloc_new u _)
  have h2 : w'.heap[k]? = some R := (hbw.block k (by omega)).trans (((World.grownBy_alloc u zeroF none).block k hk (by simp)).trans hrow)
  have e1 := heap_setCell_same w' _ 0 _ _ (.int .i64 a) h1
  have e2 := heap_setCell_same _ _ 1 _ _ (.int .i64 b) e1
  have e3 := heap_setCell_same _ _ 2 _ _ (.bool h) e2
  have f : ∀ (v : World) (o : Nat) (y : Value), v.heap[k]? = some R → (v.setCell ⟨u.heap.size, o, none⟩ y).heap[k]? = some R := fun v o y hv =>
    (heap_setCell_other v ⟨u.heap.size, o, none⟩ k y (by show k ≠ u.heap.size; omega)).trans hv
  have hb1 : Below w.heap.size w w' := ((hb0.alloc hu zeroF).drew).trans (hbw.mono (by omega))
  exact ⟨_, rfl, e3, f _ _ _ (f _ _ _ (f _ _ _ h2)), ((hb1.setCell (p := ⟨u.heap.size, 0, none⟩) hu _).setCell (p := ⟨u.heap.size, 1, none⟩) hu _).setCell (p := ⟨u.heap.size, 2, none⟩) hu _⟩
theorem new_final {u v w w' : World} {k : Nat} {R : Obj} (a b : Int) (h : Bool) (hu : w.heap.size ≤ u.heap.size) (hrow : u.heap[k]? = some R) (hb0 : Below w.heap.size w u) (hv : v.heap = u.heap ∧ v.os = u.os ∧ v.tape = u.tape ∧ v.output = u.output) (hbw : Below u.heap.size v w') :
    ∃ b9, Value.pointer (some ⟨w'.heap.size, 0, none⟩) = .pointer (some ⟨b9, 0, none⟩) ∧ (w'.alloc (.cells #[.int .i64 a, .int .i64 b, .bool h] 99)).heap[b9]? = some (.cells #[.int .i64 a, .int .i64 b, .bool h] 99 (0, 0)) ∧
      (w'.alloc (.cells #[.int .i64 a, .int .i64 b, .bool h] 99)).heap[k]? = some R ∧ Below w.heap.size w (w'.alloc (.cells #[.int .i64 a, .int .i64 b, .bool h] 99)) := by
  have hk : k < u.heap.size := (Array.getElem?_eq_some_iff.1 hrow).1
  have h2 : w'.heap[k]? = some R := by rw [hbw.block k hk, hv.1]; exact hrow
  have hsz : u.heap.size ≤ w'.heap.size := by have := hbw.size; rwa [hv.1] at this
  have hb1 : Below w.heap.size w w' := hb0.trans (Below.mono ⟨by rw [hbw.os, hv.2.1], by rw [hbw.tape, hv.2.2.1], by rw [hbw.output, hv.2.2.2], hsz, fun j hj => by rw [hbw.block j hj, hv.1]⟩ hu)
  exact ⟨_, rfl, heap_alloc_new w' _, ((World.grownBy_alloc w' _ none).block k (by omega) (by simp)).trans h2, hb1.alloc (by omega) _⟩
/-- The form of a kind; nothing, if it has none. -/
def formD (k : Int) : Nat × Nat × Bool := (formAt k).getD (0, 0, false)
theorem form_get {W : World} {b : Nat} (h : MapIsI W Tryz.prog 3 b 14 (fun k => (formAt k).map formV)) (k : Int) (hk : (Lit.int .i64 k).wf = true) :
    (Instr.lookup 100 (.map (some b)) (.int .i64 k) false).run Tryz.prog W = .ok (.agg #[.int .i64 (formD k).1, .int .i64 (formD k).2.1, .bool (formD k).2.2]) W := by
  have e := h.get false Tryz.underlying3 Tryz.underlying100 (zeroForm W) k hk
  rw [e]
  unfold formD
  cases formAt k <;> rfl
set_option maxRecDepth 100000 in
set_option maxHeartbeats 4000000 in
theorem isForm_any (x : Nd) (B : Option Addr) (c : Nat) (w : World) (hk : (Lit.int .i64 x.kind).wf = true) (hl : x.kids.length ≤ 1000000) :
    Calls Tryz.prog 46 #[x.value B c] w fun e w' => e = .returned (.bool (formOk x)) ∧ Below w.heap.size w w' := by
  have Hk := Lib.hid hk
  clear hk
  unfold Nd.value
  go_enter Tryz.func46, Tryz.ntmps46
  go_upto_region 1 with fail
  have hb0 : Below w.heap.size w (w.alloc (.cells #[.int .i64 x.kind, .string x.text, .slice B x.kids.length c] 49)) := (Below.refl _ _).alloc (Nat.le_refl _) _
  have hrow : (w.alloc (.cells #[.int .i64 x.kind, .string x.text, .slice B x.kids.length c] 49)).heap[w.heap.size]? = some (.cells #[.int .i64 x.kind, .string x.text, .slice B x.kids.length c] 49 (0, 0)) := heap_alloc_new w _
  have hsz : w.heap.size < (w.alloc (.cells #[.int .i64 x.kind, .string x.text, .slice B x.kids.length c] 49)).heap.size := by simp
  generalize w.alloc (.cells #[.int .i64 x.kind, .string x.text, .slice B x.kids.length c] 49) = u at *
  have Hrow := Lib.hid hrow
  have hwu := hb0.size
  have Hb0 := Lib.hid hb0
  have c0 : u.cell? ⟨w.heap.size, 0, none⟩ = some (.int .i64 x.kind) := by simp [World.cell?, hrow]
  have c2 : (u.alloc (.cells #[.int .i64 0, .int .i64 0, .bool false] 99)).cell? ⟨w.heap.size, 0, none⟩ = some (.int .i64 x.kind) := (World.cell?_alloc_lt _ _ _ hsz).trans c0
  clear hrow hb0
  go_cut [3] from 5 to 8 (fun p wx => ∃ b, p = .pointer (some ⟨b, 0, none⟩) ∧ wx.heap[b]? = some (.cells #[.int .i64 (formD x.kind).1, .int .i64 (formD x.kind).2.1, .bool (formD x.kind).2.2] 99 (0, 0)) ∧
    wx.heap[w.heap.size]? = some (.cells #[.int .i64 x.kind, .string x.text, .slice B x.kids.length c] 49 (0, 0)) ∧ Below w.heap.size w wx)
  case first =>
    go_region_with (go_at_call 67; refine (forms_any _).mono ?_; rintro e w' ⟨rfl, hm, hbw⟩; have hl1 := form_get hm x.kind Hk.out; have hl2 := form_get (hm.kept (World.grownBy_alloc w' (.cells #[.int .i64 0, .int .i64 0, .bool false] 99) none) (by simp)) x.kind Hk.out; (simp only [show ∀ v : World, v.drew.heap = v.heap from fun _ => rfl, World.size_alloc] at hl1 hl2); have c1 := (hbw.cell (p := ⟨w.heap.size, 0, none⟩) (by first | exact hsz | (simp; omega))).trans (by first | exact c0 | exact (World.cell?_alloc_lt _ _ _ hsz).trans c0); have c3 : (w'.alloc (.cells #[.int .i64 0, .int .i64 0, .bool false] 99)).cell? ⟨w.heap.size, 0, none⟩ = some (.int .i64 x.kind) := (World.cell?_alloc_lt _ _ _ (cell_lt c1)).trans c1; (try (revert hbw; refine late_imp ?_; intro hbw x0 x1 x2 z0 z1 z2)))
    all_goals (try simp only [World.size_alloc, show ∀ v : World, v.drew.heap = v.heap from fun _ => rfl] at *)
    all_goals go_wp2_with fail
    all_goals go_meet
    all_goals first | exact late_final _ _ _ hwu Hrow.out Hb0.out hbw | exact new_final (v := u.drew) _ _ _ hwu Hrow.out Hb0.out ⟨rfl, rfl, rfl, rfl⟩ hbw
  case rest =>
    obtain ⟨b, rfl, hr1, hr2, hb2⟩ := hcut
    have l1 : b < wc.heap.size := (Array.getElem?_eq_some_iff.1 hr1).1
    have l2 : w.heap.size < wc.heap.size := (Array.getElem?_eq_some_iff.1 hr2).1
    have d0 : wc.cell? ⟨w.heap.size, 0, none⟩ = some (.int .i64 x.kind) := by simp [World.cell?, hr2]
    have d1 : wc.cell? ⟨w.heap.size, 1, none⟩ = some (.string x.text) := by simp [World.cell?, hr2]
    have d2 : wc.cell? ⟨w.heap.size, 2, none⟩ = some (.slice B x.kids.length c) := by simp [World.cell?, hr2]
    have hwz := hb2.size
    clear c0 c2 hsz Hrow Hb0 hr2
    cases hf : formAt x.kind with
    | none =>
      have e : formD x.kind = (0, 0, false) := by simp [formD, hf]
      rw [e] at hr1
      have x0 : wc.cell? ⟨b, 0, none⟩ = some (.int .i64 0) := by simp [World.cell?, hr1]
      have x1 : wc.cell? ⟨b, 1, none⟩ = some (.int .i64 0) := by simp [World.cell?, hr1]
      have x2 : wc.cell? ⟨b, 2, none⟩ = some (.bool false) := by simp [World.cell?, hr1]
      have HO : Hid (formOk x = false) := Lib.hid (by simp [formOk, hf])
      clear hf e hr1
      go_wp2_with fail
      go_ret
      exact ⟨by rw [HO.out]; rfl, hb2.alloc hwz _⟩
    | some f =>
      obtain ⟨a, m, h⟩ := f
      have e : formD x.kind = (a, m, h) := by simp [formD, hf]
      rw [e] at hr1
      obtain ⟨y1, y2⟩ := formAt_some hf
      have x0 : wc.cell? ⟨b, 0, none⟩ = some (.int .i64 a) := by simp [World.cell?, hr1]
      have x1 : wc.cell? ⟨b, 1, none⟩ = some (.int .i64 m) := by simp [World.cell?, hr1]
      have x2 : wc.cell? ⟨b, 2, none⟩ = some (.bool h) := by simp [World.cell?, hr1]
      have HO : Hid (formOk x = (decide (a ≤ x.kids.length) && decide (x.kids.length ≤ m) && (decide (0 < x.text.size) == h))) := Lib.hid (by simp [formOk, hf])
      have heq : ∀ W, (binOp .eql 99 (.agg #[.int .i64 a, .int .i64 m, .bool h]) (.agg #[.int .i64 0, .int .i64 0, .bool false])).run Tryz.prog W = .ok (.bool false) W := fun W => run_eql_form a m h y1 W
      clear hf e hr1 y1
      generalize x.kids.length = n at *
      by_cases h1 : a ≤ n
      · have H1 := Lib.hid (decide_eq_true h1)
        by_cases h2 : n ≤ m
        · by_cases h3 : 0 < x.text.size
          · have q := empty_not h3
            have D3 : decide (0 < x.text.size) = true := decide_eq_true h3
            cases h
            · go_wp2_with fail
              go_ret
              exact ⟨by rw [HO.out, H1.out, show decide (n ≤ m) = true by simp; omega, D3]; rfl, hb2.alloc hwz _⟩
            · go_wp2_with fail
              go_ret
              exact ⟨by rw [HO.out, H1.out, show decide (n ≤ m) = true by simp; omega, D3]; rfl, hb2.alloc hwz _⟩
          · have q := empty_is (show x.text.size = 0 by omega)
            have D3 : decide (0 < x.text.size) = false := decide_eq_false h3
            cases h
            · go_wp2_with fail
              go_ret
              exact ⟨by rw [HO.out, H1.out, show decide (n ≤ m) = true by simp; omega, D3]; rfl, hb2.alloc hwz _⟩
            · go_wp2_with fail
              go_ret
              exact ⟨by rw [HO.out, H1.out, show decide (n ≤ m) = true by simp; omega, D3]; rfl, hb2.alloc hwz _⟩
        · have h2' : decide ((n : Int) ≤ (m : Int)) = false := by simp; omega
          have h2'' : decide (n ≤ m) = false := by simp; omega
          go_wp2_with fail
          go_ret
          exact ⟨by rw [HO.out, H1.out, h2'']; rfl, hb2.alloc hwz _⟩
      · have h1' : decide ((a : Int) ≤ (n : Int)) = false := by simp; omega
        have h1'' : decide (a ≤ n) = false := by simp; omega
        go_wp2_with fail
        go_ret
        exact ⟨by rw [HO.out, h1'']; rfl, hb2.alloc hwz _⟩
end Go.Proofs.YtebejlnegalokaaGreatDoor.Nz
