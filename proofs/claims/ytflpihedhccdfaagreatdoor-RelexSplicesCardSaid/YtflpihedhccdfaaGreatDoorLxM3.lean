/-
  Rows of glyphs in memory: lists of them that a call makes.
-/
import Derived.Test.YtflpihedhccdfaaGreatDoorProg
import Derived.Test.YtflpihedhccdfaaGreatDoorReg
import Derived.WalkKit
import Derived.WalkSpells
import Derived.WalkLawsBesides
import Derived.Lib.Hide
import Derived.Lib.MinMax
import Derived.Deep.QuietTactic
import Derived.BigQuiet
import Derived.OwnWalk
import Derived.Deep.AppendLies
import Derived.KernelRfl
import Derived.Laws.OwnMore
import Derived.Deep.OwnRows
import Derived.Maps.AppendAt
import Derived.Deep.RegionWith
import Derived.Test.YtflpihedhccdfaaGreatDoorMap
import Derived.Test.YtflpihedhccdfaaGreatDoorRegZ
import Derived.Test.YtflpihedhccdfaaGreatDoorLxM2
import Derived.Maps.OwnSet
import Derived.OneCell
import Derived.Laws.Rows
set_option linter.unusedSimpArgs false
set_option linter.unusedVariables false
namespace Go.Proofs.YtflpihedhccdfaaGreatDoor
open Go.RowKit

abbrev tG : TypeId := 188
abbrev tT : TypeId := 184
theorem infoGly : (Tryz.prog.info? 188).map (fun i => (i.zero, i.size, i.bytes)) = some (some (.agg #[.string ByteArray.empty, .string ByteArray.empty, .int .i64 0]), 3, 40) := by kernel_rfl

def Gly.cells (x : Gly) : List Value := [.string x.glyph, .string x.letter, .int .i64 x.cls]
def Gly.val (x : Gly) : Value := .agg #[.string x.glyph, .string x.letter, .int .i64 x.cls]
def glyCells (l : List Gly) : List Value := l.flatMap Gly.cells
theorem glyCells_length (l : List Gly) : (glyCells l).length = l.length * 3 := by
  induction l with
  | nil => rfl
  | cons x l ih => simp [glyCells, Gly.cells] at ih ⊢; omega
theorem glyCells_append (l m : List Gly) : glyCells (l ++ m) = glyCells l ++ glyCells m := by simp [glyCells]
theorem glyCells_one (x : Gly) : glyCells [x] = x.cells := by simp [glyCells]
theorem glyCells_get (l : List Gly) : ∀ (k : Nat) (x : Gly), l[k]? = some x → (glyCells l)[k * 3]? = some (.string x.glyph) ∧ (glyCells l)[k * 3 + 1]? = some (.string x.letter) ∧ (glyCells l)[k * 3 + 2]? = some (.int .i64 x.cls) := by
  induction l with
  | nil => intro k x h; simp at h
  | cons y l ih =>
    intro k x h
    have e : glyCells (y :: l) = [.string y.glyph, .string y.letter, .int .i64 y.cls] ++ glyCells l := by simp [glyCells, Gly.cells]
    cases k with
    | zero =>
      simp at h
      subst h
      rw [e]
      exact ⟨rfl, rfl, rfl⟩
    | succ k =>
      have h1 := ih k x (by simpa using h)
      rw [e]
      refine ⟨?_, ?_, ?_⟩
      · rw [List.getElem?_append_right (by simp; omega)]
        rw [← h1.1]; congr 1; simp; omega
      · rw [List.getElem?_append_right (by simp; omega)]
        rw [← h1.2.1]; congr 1; simp; omega
      · rw [List.getElem?_append_right (by simp; omega)]
        rw [← h1.2.2]; congr 1; simp; omega
/-- The slice value '.slice A n c' holds, in w, the glyphs l. -/
def HoldsG (w : World) (A : Option Addr) (l : List Gly) : Prop :=
  ∀ (k : Nat) (x : Gly), l[k]? = some x → ∃ b off, A = some ⟨b, off, none⟩ ∧ w.cell? ⟨b, off + k * 3, none⟩ = some (.string x.glyph) ∧
    w.cell? ⟨b, off + k * 3 + 1, none⟩ = some (.string x.letter) ∧ w.cell? ⟨b, off + k * 3 + 2, none⟩ = some (.int .i64 x.cls)
theorem HoldsG.below {w w' : World} {A : Option Addr} {l : List Gly} (h : HoldsG w A l) (hb : Below w.heap.size w w') : HoldsG w' A l := fun k x hx => by
  obtain ⟨b, off, e, h1, h2, h3⟩ := h k x hx
  have hl : b < w.heap.size := cell_lt h1
  exact ⟨b, off, e, (hb.cell (p := ⟨b, _, none⟩) hl).trans h1, (hb.cell (p := ⟨b, _, none⟩) hl).trans h2, (hb.cell (p := ⟨b, _, none⟩) hl).trans h3⟩
theorem add_at (g j : Nat) : (⟨g, 0, none⟩ : Addr).add j = ⟨g, 0 + j, none⟩ := by
  unfold Addr.add
  split
  · rename_i h; subst h; rfl
  · rfl
theorem holdsG_of_own {w : World} {base : Nat} {e : TypeId} {v : Value} {n : Nat} {l : List Gly} (h : w.ownsRow base e 3 v n (glyCells l)) :
    ∃ A c, v = .slice A l.length c ∧ n = l.length ∧ HoldsG w A l ∧ l.length ≤ c := by
  have hn : n = l.length := by have h1 := h.1; rw [glyCells_length] at h1; omega
  subst hn
  rcases h.2 with ⟨rfl, h0⟩ | ⟨g, cap, cur, rfl, _, _, hcap, _⟩
  · have : l = [] := List.eq_nil_of_length_eq_zero h0
    subst this
    exact ⟨none, 0, rfl, rfl, fun k x hx => by simp at hx, Nat.le_refl _⟩
  · refine ⟨some ⟨g, 0, none⟩, cap, rfl, rfl, fun k x hx => ?_, hcap⟩
    have hc := h.cells (g := g) rfl
    obtain ⟨h1, h2, h3⟩ := glyCells_get l k x hx
    have c1 := hc _ _ h1
    have c2 := hc _ _ h2
    have c3 := hc _ _ h3
    rw [add_at] at c1 c2 c3
    exact ⟨g, 0, rfl, c1, by rw [Nat.add_assoc]; exact c2, by rw [Nat.add_assoc]; exact c3⟩
theorem grown_of_below {w w' : World} (h : Below w.heap.size w w') : w.grownBy w' none := ⟨h.os, h.tape, h.output, h.size, fun k hk _ => h.block k hk⟩
theorem own_below {w w' : World} {base : Nat} {e : TypeId} {size : Nat} {v : Value} {n : Nat} {xs : List Value} (h : w.ownsRow base e size v n xs) (hb : Below w.heap.size w w') : w'.ownsRow base e size v n xs :=
  h.kept (grown_of_below hb) (by cases hv : v.ownBlock <;> simp)
theorem wp_append_run {P : Program} {w w' : World} {o : Oper} {a : Act} {K : Act → World → Prop} {Q : Exit → Act → World → Prop} {v u v' : Value} (s x : Operand) (t t2 : TypeId)
    (ho : o.op = .call { callee := .builtin .append, args := #[s, x], argTypes := #[t, t2] }) (hs : a.eval s = v) (hx : a.eval x = u) (hr : (Builtin.append_ #[t, t2] o.type #[v, u]).run P w = .ok v' w') (h : K (a.put o.dst v') w') : o.wp P a w K Q := by
  unfold Oper.wp execOp
  simp only [ho, resolve, invoke, builtin, Sem.run_bind, Sem.run_pure, Result.andThen_ok, List.map_toArray, List.map_cons, List.map_nil, hs, hx, hr]
  exact h
theorem wpList_append_run {P : Program} {w w' : World} {ops : Array Oper} {rest : List Oper} {o : Oper} {a : Act} {Q : Exit → Act → World → Prop} {v u v' : Value} (hgd : o.guard = none) (s x : Operand) (t t2 : TypeId)
    (ho : o.op = .call { callee := .builtin .append, args := #[s, x], argTypes := #[t, t2] }) (hs : a.eval s = v) (hx : a.eval x = u) (hr : (Builtin.append_ #[t, t2] o.type #[v, u]).run P w = .ok v' w') (h : wpList P ops Q rest (a.put o.dst v') w') : wpList P ops Q (o :: rest) a w :=
  wpList_plain hgd fun _ hK => wp_append_run s x t t2 ho hs hx hr (hK _ _ h)
/-- A glyph is appended. -/
theorem push_gly {W : World} {base : Nat} {v : Value} {l : List Gly} {x : Gly} {g : Nat} (hg : W.heap[g]? = some (.cells #[.string x.glyph, .string x.letter, .int .i64 x.cls] tG (0, 0))) (hown : W.ownsRow base tG 3 v l.length (glyCells l)) (hl : l.length ≤ 1000000) (hbase : base ≤ W.heap.size) :
    ∃ A c w', (Builtin.append_ #[181, 181] 181 #[v, .slice (some ⟨g, 0, none⟩) 1 1]).run Tryz.prog W = .ok (.slice A (l.length + 1) c) w' ∧ w'.ownsRow base tG 3 (.slice A (l.length + 1) c) (l ++ [x]).length (glyCells (l ++ [x])) ∧ W.grownBy w' v.ownBlock ∧ ((Value.slice A (l.length + 1) c).ownBlock = v.ownBlock ∨ (Value.slice A (l.length + 1) c).ownBlock = some W.heap.size) := by
  obtain ⟨i0, hi0, hz0, hz1, hz2⟩ := info_parts infoGly
  obtain ⟨v', w', hr, ho, hgr, _, hat⟩ := run_append_own_at (P := Tryz.prog) W base 181 181 tG i0 _ 3 40 Tryz.underlying181 hi0 hz0 hz1 hz2 rfl (by decide) v l.length (glyCells l) hown ⟨g, 0, none⟩ 1 1 x.cells rfl
    (World.news_of_block (cs := x.cells.toArray) (t := tG) (fr := (0, 0)) hg) (by simp [Gly.cells, Value.oneCell']) (by unfold maxLen; omega) (by omega) hbase
  rw [← glyCells_one, ← glyCells_append] at ho
  have ho2 : w'.ownsRow base tG 3 v' (l ++ [x]).length (glyCells (l ++ [x])) := by rw [List.length_append]; exact ho
  obtain ⟨A, c, rfl, _, _, _⟩ := holdsG_of_own ho2
  rw [List.length_append, List.length_singleton] at hr ho2 hat
  exact ⟨A, c, w', hr, by rw [List.length_append, List.length_singleton]; exact ho2, hgr, hat⟩
/-- The slice value '.slice A n c' holds, in w, the texts l. -/
def HoldsS (w : World) (A : Option Addr) (l : List ByteArray) : Prop :=
  ∀ (k : Nat) (x : ByteArray), l[k]? = some x → ∃ b off, A = some ⟨b, off, none⟩ ∧ w.cell? ⟨b, off + k, none⟩ = some (.string x)
theorem HoldsS.below {w w' : World} {A : Option Addr} {l : List ByteArray} (h : HoldsS w A l) (hb : Below w.heap.size w w') : HoldsS w' A l := fun k x hx => by
  obtain ⟨b, off, e, h1⟩ := h k x hx
  have hl : b < w.heap.size := cell_lt h1
  exact ⟨b, off, e, (hb.cell (p := ⟨b, _, none⟩) hl).trans h1⟩
theorem holdsS_lit {w : World} {b : Nat} {l : List ByteArray} {T : TypeId} {fr : Nat × Nat} (h : w.heap[b]? = some (.cells (l.map Value.string).toArray T fr)) : HoldsS w (some ⟨b, 0, none⟩) l := fun k x hx => by
  refine ⟨b, 0, rfl, ?_⟩
  rw [Nat.zero_add]
  simp [World.cell?, h, hx]

def plainG (c : Int) (l : List ByteArray) : List Gly := l.map fun g => ⟨g, ByteArray.empty, c⟩
def typedG (c : Int) : List ByteArray → List Gly
  | g :: l :: r => ⟨g, l, c⟩ :: typedG c r
  | _ => []
theorem take_one {α : Type} {l : List α} {k : Nat} {x : α} (h : l[k]? = some x) : l.take (k + 1) = l.take k ++ [x] := by
  rw [List.take_add_one, h]; rfl

set_option maxRecDepth 100000 in
set_option maxHeartbeats 4000000 in
theorem plain_any (cls : Int) (l : List ByteArray) (A : Option Addr) (c : Nat) (w : World) (hl : l.length ≤ 1000) (hh : HoldsS w A l) :
    Calls Tryz.prog 120 #[.int .i64 cls, .slice A l.length c] w fun e w' => ∃ v, e = .returned v ∧ w'.ownsRow w.heap.size tG 3 v (plainG cls l).length (glyCells (plainG cls l)) ∧ Below w.heap.size w w' := by
  have HH := Lib.hid hh
  clear hh
  go_enter Tryz.func120, Tryz.ntmps120
  go_wp2_with fail
  go_loopw [5, 10] (fun v s wr => ∃ (i : Nat) (L : List Gly), s = .int .i64 i ∧ i ≤ l.length ∧ Hid (L = plainG cls (l.take i)) ∧ Hid (wr.ownsRow w.heap.size tG 3 v L.length (glyCells L)) ∧ Hid (Below w.heap.size w wr)) (fun _ s _ => l.length - (intOf s).toNat)
  case atStart => exact ⟨0, [], rfl, Nat.zero_le _, Lib.hid rfl, Lib.hid (World.ownsRow_nil _ _ _ _), Lib.hid (Below.refl _ _)⟩
  case round =>
    obtain ⟨i, L, rfl, hi, HL, HO, HB⟩ := hrel
    by_cases hlt : i < l.length
    · have g := List.getElem?_eq_getElem hlt
      have HL2 : Hid (L ++ [⟨l[i], ByteArray.empty, cls⟩] = plainG cls (l.take (i + 1))) := Lib.hid (by
        rw [HL.out, take_one g]
        unfold plainG
        rw [List.map_append]
        rfl)
      generalize l[i] = x at *
      obtain ⟨b, off, rfl, c0⟩ := HH.out i x g
      have lb : b < w.heap.size := cell_lt c0
      have hsz := HB.out.size
      have d0 := (HB.out.cell (p := ⟨b, _, none⟩) lb).trans c0
      have hLl : L.length ≤ 1000 := by
        rw [HL.out]
        unfold plainG
        rw [List.length_map, List.length_take]
        omega
      have hO1 : (wr.alloc (.cells #[.string x, .string ByteArray.empty, .int .i64 cls] tG)).ownsRow w.heap.size tG 3 u5 L.length (glyCells L) := own_below HO.out ((Below.refl _ wr).alloc (Nat.le_refl _) _)
      obtain ⟨A9, c9, w9, hrun, hN9, hgr9, _⟩ := push_gly (x := ⟨x, ByteArray.empty, cls⟩) (g := wr.heap.size) (heap_alloc_new wr _) hO1 (by omega) (by simp; omega)
      have hut5 : ∃ A5 c5, u5 = .slice A5 L.length c5 := by
        obtain ⟨A5, c5, e, _⟩ := holdsG_of_own hO1
        exact ⟨A5, c5, e⟩
      obtain ⟨A5, c5, rfl⟩ := hut5
      have hBw9 : Below w.heap.size w w9 := (HB.out.alloc (by omega) _).grown hgr9 (by simp; omega) (fun kk hkk => (ownBlock_ge hO1) kk hkk)
      have HN9 := Lib.hid hN9
      have HB9 := Lib.hid hBw9
      clear hO1 hN9 hBw9 hgr9 HL g c0
      go_wp2_with (at_builtin; go_must (refine wpList_append_run rfl _ _ 181 181 rfl rfl rfl hrun ?_))
      go_roundw
      case rel => exact ⟨i + 1, _, by go_num, by omega, HL2, HN9, HB9⟩
      case measure => simp [intOf]; omega
    · obtain rfl : i = l.length := by omega
      have HL2 : Hid (L = plainG cls l) := Lib.hid (by rw [HL.out, List.take_of_length_le (Nat.le_refl _)])
      go_wp2_with fail
      go_ret
      exact ⟨_, rfl, by rw [← HL2.out]; exact HO.out, HB.out⟩
def typedTo (c : Int) (l : List ByteArray) (i : Nat) : List Gly := typedG c (l.take (2 * i))
theorem typedG_two : ∀ (i : Nat) (l : List ByteArray) (c : Int) (g t : ByteArray), l[2 * i]? = some g → l[2 * i + 1]? = some t → typedG c (l.take (2 * (i + 1))) = typedG c (l.take (2 * i)) ++ [⟨g, t, c⟩]
  | 0, l, c, g, t, h1, h2 => by
    match l, h1, h2 with
    | a :: b :: r, h1, h2 =>
      simp at h1 h2
      subst h1; subst h2
      rfl
    | [a], h1, h2 => simp at h2
    | [], h1, h2 => simp at h1
  | i + 1, l, c, g, t, h1, h2 => by
    match l, h1, h2 with
    | a :: b :: r, h1, h2 =>
      have h1' : r[2 * i]? = some g := by rw [← h1, show 2 * (i + 1) = 2 * i + 1 + 1 by omega]; rfl
      have h2' : r[2 * i + 1]? = some t := by rw [← h2, show 2 * (i + 1) + 1 = 2 * i + 1 + 1 + 1 by omega]; rfl
      have := typedG_two i r c g t h1' h2'
      rw [show 2 * (i + 1 + 1) = 2 * (i + 1) + 1 + 1 by omega, show 2 * (i + 1) = 2 * i + 1 + 1 by omega]
      show typedG c (a :: b :: r.take (2 * i + 1 + 1)) = typedG c (a :: b :: r.take (2 * i)) ++ _
      unfold typedG
      rw [show 2 * i + 1 + 1 = 2 * (i + 1) by omega, this]
      rfl
    | [a], h1, h2 => rw [show 2 * (i + 1) = 2 * i + 1 + 1 by omega] at h1; simp at h1
    | [], h1, h2 => simp at h1
theorem typedG_len : ∀ (n : Nat) (l : List ByteArray) (c : Int), l.length ≤ n → (typedG c l).length ≤ l.length
  | 0, l, c, h => by
    have : l = [] := List.eq_nil_of_length_eq_zero (by omega)
    subst this
    simp [typedG]
  | n + 1, l, c, h => by
    match l, h with
    | a :: b :: r, h =>
      have := typedG_len n r c (by simp at h; omega)
      unfold typedG
      simp only [List.length_cons] at *
      omega
    | [a], h => simp [typedG]
    | [], h => simp [typedG]

set_option maxRecDepth 100000 in
set_option maxHeartbeats 4000000 in
theorem typed_any (cls : Int) (l : List ByteArray) (A : Option Addr) (c N n : Nat) (w : World) (hN : N = 2 * n) (hn : l.length = 2 * n) (hl : n ≤ 500) (hh : HoldsS w A l) :
    Calls Tryz.prog 121 #[.int .i64 cls, .slice A N c] w fun e w' => ∃ v, e = .returned v ∧ w'.ownsRow w.heap.size tG 3 v (typedG cls l).length (glyCells (typedG cls l)) ∧ Below w.heap.size w w' := by
  have HH := Lib.hid hh
  have HN := Lib.hid hn
  have HE := Lib.hid hN
  have hNl : N ≤ 1000 := by omega
  clear hh hn hN
  go_enter Tryz.func121, Tryz.ntmps121
  go_wp2_with fail
  go_loopw [5, 6] (fun v s wr => ∃ (k i : Nat) (L : List Gly), s = .int .i64 (k : Int) ∧ k ≤ N ∧ Hid (k = 2 * i) ∧ Hid (L = typedG cls (l.take (2 * i))) ∧ Hid (wr.ownsRow w.heap.size tG 3 v L.length (glyCells L)) ∧ Hid (Below w.heap.size w wr)) (fun _ s _ => N - (intOf s).toNat)
  case atStart => exact ⟨0, 0, [], rfl, Nat.zero_le _, Lib.hid rfl, Lib.hid rfl, Lib.hid (World.ownsRow_nil _ _ _ _), Lib.hid (Below.refl _ _)⟩
  case round =>
    obtain ⟨k, i, L, rfl, hi, HK, HL, HO, HB⟩ := hrel
    by_cases hlt : k + 1 < N
    · have h2 : 2 * i + 1 < l.length := by have := HK.out; have := HE.out; rw [HN.out]; omega
      have g1 := List.getElem?_eq_getElem (l := l) (i := 2 * i) (by omega)
      have g2 := List.getElem?_eq_getElem (l := l) (i := 2 * i + 1) h2
      have HL2 := Lib.hid (typedG_two i l cls _ _ g1 g2)
      rw [← HL.out] at HL2
      generalize l[2 * i]'(by omega) = x at *
      generalize l[2 * i + 1]'h2 = y at *
      obtain ⟨b, off, rfl, c0⟩ := HH.out _ x g1
      obtain ⟨b', off', e, c1⟩ := HH.out _ y g2
      cases e
      rw [← HK.out] at c0 c1
      have lb : b < w.heap.size := cell_lt c0
      have hsz := HB.out.size
      have d0 := (HB.out.cell (p := ⟨b, _, none⟩) lb).trans c0
      have d1 := (HB.out.cell (p := ⟨b, _, none⟩) lb).trans c1
      have hLl : L.length ≤ 1000 := by
        have h1 := typedG_len _ (l.take (2 * i)) cls (Nat.le_refl _)
        have := HK.out
        rw [HL.out]
        rw [List.length_take] at h1
        omega
      have hO1 : (wr.alloc (.cells #[.string x, .string y, .int .i64 cls] tG)).drew.ownsRow w.heap.size tG 3 u5 L.length (glyCells L) := (own_below HO.out ((Below.refl _ wr).alloc (Nat.le_refl _) _)).drew
      obtain ⟨A9, c9, w9, hrun, hN9, hgr9, _⟩ := push_gly (W := (wr.alloc (.cells #[.string x, .string y, .int .i64 cls] tG)).drew) (x := ⟨x, y, cls⟩) (g := wr.heap.size) (heap_alloc_new wr _) hO1 (by omega) (by simp; omega)
      have hut5 : ∃ A5 c5, u5 = .slice A5 L.length c5 := by
        obtain ⟨A5, c5, e, _⟩ := holdsG_of_own hO1
        exact ⟨A5, c5, e⟩
      obtain ⟨A5, c5, rfl⟩ := hut5
      have hBw9 : Below w.heap.size w w9 := (HB.out.alloc (by omega) _).drew.grown hgr9 (by simp; omega) (fun kk hkk => (ownBlock_ge hO1) kk hkk)
      have HN9 := Lib.hid hN9
      have HB9 := Lib.hid hBw9
      have lt1 : b < wr.heap.size := by omega
      have e0 : (wr.alloc (.cells #[.string x, .string y, .int .i64 cls] tG)).drew.cell? ⟨b, off + k, none⟩ = some (.string x) := (World.cell?_alloc_lt _ _ _ lt1).trans d0
      have e1 : (wr.alloc (.cells #[.string x, .string y, .int .i64 cls] tG)).drew.cell? ⟨b, off + (k + 1), none⟩ = some (.string y) := (World.cell?_alloc_lt _ _ _ lt1).trans d1
      have k0 := (hBw9.cell (p := ⟨b, _, none⟩) lb).trans c0
      have k1 := (hBw9.cell (p := ⟨b, _, none⟩) lb).trans c1
      have HK2 : Hid (k + 2 = 2 * (i + 1)) := Lib.hid (by have := HK.out; omega)
      have hlt0 : k < N := by omega
      have q1 : IntKind.i64.wrap ((k : Int) + 1) = (k : Int) + 1 := IntWalk.i64_in _ (by omega)
      have q2 : ((k : Int) + 1).toNat = k + 1 := by omega
      have q3 : (k : Int) + 1 < (N : Int) := by omega
      have q4 : (0 : Int) ≤ (k : Int) + 1 := by omega
      clear hO1 hN9 hBw9 hgr9 HL g1 g2 c0 c1 h2
      go_wp2_with fail
      refine wp_region_ord (S := fun w' => w'.cell? ⟨b, off + k, none⟩ = some (.string x) ∧ w'.cell? ⟨b, off + (k + 1), none⟩ = some (.string y)) [0, 1, 2, 3, 4, 5, 6, 7, 8, 9, 10] [11, 12, 13, 14] (by kernel_rfl) (by kernel_rfl) (fun _ _ _ _ _ h => h) ⟨d0, d1⟩ ?_
      simp only [pick, List.filterMap_cons, List.filterMap_nil, List.getElem?_toArray, List.getElem?_cons_zero, List.getElem?_cons_succ]
      repeat (refine wpHead_step (v := ?_) rfl ?_ ?_; rotate_left; (focus (rintro w1 ⟨d0, d1⟩; go_simp; try with_reducible rfl)); simp only [Act.put, List.setIfInBounds_toArray, List.set_cons_zero, List.set_cons_succ])
      refine wpHead_nil ?_
      refine wpTail_step rfl (fun K hK => ?_)
      go_wp2_with fail
      refine hK _ _ ⟨d0, d1⟩ ?_
      clear hK K
      try simp only [Act.put, List.setIfInBounds_toArray, List.set_cons_zero, List.set_cons_succ]
      refine wpTail_step rfl (fun K hK => ?_)
      go_wp2_with fail
      refine hK _ _ ⟨e0, e1⟩ ?_
      clear hK K
      try simp only [Act.put, List.setIfInBounds_toArray, List.set_cons_zero, List.set_cons_succ]
      refine wpTail_step rfl (fun K hK => ?_)
      refine wp_append_run _ _ 181 181 rfl rfl rfl hrun ?_
      refine hK _ _ ⟨k0, k1⟩ ?_
      clear hK K
      try simp only [Act.put, List.setIfInBounds_toArray, List.set_cons_zero, List.set_cons_succ]
      refine wpTail_step rfl (fun K hK => ?_)
      go_wp2_with fail
      refine hK _ _ ⟨k0, k1⟩ ?_
      clear hK K
      try simp only [Act.put, List.setIfInBounds_toArray, List.set_cons_zero, List.set_cons_succ]
      refine wpTail_nil ?_
      go_wp2_with fail
      go_roundw
      case rel => exact ⟨k + 2, i + 1, _, by go_num, by omega, HK2, Lib.hid HL2.out.symm, HN9, HB9⟩
      case measure => simp [intOf]; omega
    · have hk9 : k = N := by have := HK.out; have := HE.out; omega
      have HL2 : Hid (L = typedG cls l) := Lib.hid (by rw [HL.out, List.take_of_length_le (by have := HK.out; have := HE.out; rw [HN.out]; omega)])
      clear HK
      subst hk9
      go_wp2_with fail
      go_ret
      exact ⟨_, rfl, by rw [← HL2.out]; exact HO.out, HB.out⟩
end Go.Proofs.YtflpihedhccdfaaGreatDoor
/-
  The table of glyphs: what is added to it.
-/
namespace Go.Proofs.YtflpihedhccdfaaGreatDoor
open Go.RowKit Go.Maps

def addLook (look : ByteArray → Option Value) (l : List Gly) : ByteArray → Option Value := l.foldl (fun f g => fun x => if x = g.glyph then some g.val else f x) look
/-- The table's row; its list; its map. -/
structure TabAt (w : World) (base T : Nat) (h : List Value) (L : List Gly) (look : ByteArray → Option Value) (n : Nat) (lv : Value) (M : Nat) : Prop where
  row : w.heap[T]? = some (.cells (h ++ [lv, .map (some M)]).toArray tT (0, 0))
  l : w.ownsRow base tG 3 lv L.length (glyCells L)
  by_ : MapIs w Tryz.prog 9 M n look
  low : base ≤ M
/-- All blocks below base but T's stay. -/
structure KeptBut (base T : Nat) (w w' : World) : Prop where
  os : w'.os = w.os
  tape : w'.tape = w.tape
  output : w'.output = w.output
  size : w.heap.size ≤ w'.heap.size
  block : ∀ k, k < base → k ≠ T → w'.heap[k]? = w.heap[k]?
theorem KeptBut.refl (base T : Nat) (w : World) : KeptBut base T w w := ⟨rfl, rfl, rfl, Nat.le_refl _, fun _ _ _ => rfl⟩
theorem KeptBut.trans {base T : Nat} {a b c : World} (h1 : KeptBut base T a b) (h2 : KeptBut base T b c) : KeptBut base T a c :=
  ⟨h2.os.trans h1.os, h2.tape.trans h1.tape, h2.output.trans h1.output, Nat.le_trans h1.size h2.size, fun k hk hne => (h2.block k hk hne).trans (h1.block k hk hne)⟩
theorem KeptBut.of_below {base T n : Nat} {a b : World} (h : Below n a b) (hn : base ≤ n) : KeptBut base T a b := ⟨h.os, h.tape, h.output, h.size, fun k hk _ => h.block k (by omega)⟩
theorem KeptBut.grown {base T : Nat} {a b : World} {r : Option Nat} (h : a.grownBy b r) (hs : base ≤ a.heap.size) (hr : ∀ k, r = some k → base ≤ k) : KeptBut base T a b := by
  refine ⟨h.os, h.tape, h.output, h.size, fun k hk _ => h.block k (by omega) (fun e => ?_)⟩
  have := hr k (by rw [e])
  omega
theorem KeptBut.setT (base T o : Nat) (w : World) (v : Value) : KeptBut base T w (w.setCell ⟨T, o, none⟩ v) := by
  refine ⟨rfl, rfl, rfl, by simp [World.setCell], fun k _ hne => ?_⟩
  rw [heap_setCell_other _ _ _ _ hne]

/-- All blocks but T's, M's and a row's stay. -/
structure KeptX (T M : Nat) (o : Option Nat) (w w' : World) : Prop where
  os : w'.os = w.os
  tape : w'.tape = w.tape
  output : w'.output = w.output
  size : w.heap.size ≤ w'.heap.size
  block : ∀ k, k < w.heap.size → k ≠ T → k ≠ M → o ≠ some k → w'.heap[k]? = w.heap[k]?
theorem KeptX.refl (T M : Nat) (o : Option Nat) (w : World) : KeptX T M o w w := ⟨rfl, rfl, rfl, Nat.le_refl _, fun _ _ _ _ _ => rfl⟩
theorem KeptX.but {T M base : Nat} {o : Option Nat} {w w' : World} (h : KeptX T M o w w') (hb : base ≤ w.heap.size) (hM : base ≤ M) (ho : ∀ k, o = some k → base ≤ k) : KeptBut base T w w' :=
  ⟨h.os, h.tape, h.output, h.size, fun k hk hne => h.block k (by omega) hne (by omega) (fun e => by have := ho k e; omega)⟩

theorem own_apart_cells {w : World} {b : Nat} {e t : TypeId} {size : Nat} {v : Value} {n : Nat} {xs : List Value} {k : Nat} {cs : Array Value} {fr : Nat × Nat} (h : w.ownsRow b e size v n xs) (hk : w.heap[k]? = some (.cells cs t fr)) (hne : t ≠ e) : v.ownBlock ≠ some k := by
  intro hv
  rcases h.2 with ⟨rfl, _⟩ | ⟨g, cap, cur, rfl, _, hg, _⟩
  · simp [Value.ownBlock] at hv
  · simp [Value.ownBlock] at hv
    subst hv
    rw [hk] at hg
    simp only [Option.some.injEq, Obj.cells.injEq] at hg
    exact hne hg.2.1
theorem grown_setCell (w : World) (a : Addr) (v : Value) : w.grownBy (w.setCell a v) (some a.block) :=
  ⟨rfl, rfl, rfl, by simp [World.setCell], fun k _ hk => heap_setCell_other _ _ _ _ (fun e => hk (by rw [e]))⟩
theorem own_apart_map {w : World} {b : Nat} {e k : TypeId} {size : Nat} {v : Value} {n m M : Nat} {xs : List Value} {look : ByteArray → Option Value} {P : Program} (h : w.ownsRow b e size v n xs) (hM : MapIs w P k M m look) : v.ownBlock ≠ some M := by
  intro hv
  obtain ⟨_, ⟨es, c, h1, _⟩, _⟩ := hM
  rcases h.2 with ⟨rfl, _⟩ | ⟨g, cap, cur, rfl, _, hg, _⟩
  · simp [Value.ownBlock] at hv
  · simp [Value.ownBlock] at hv
    subst hv
    rw [h1] at hg
    cases hg

set_option maxRecDepth 100000 in
set_option maxHeartbeats 8000000 in
theorem add_any (G : List Gly) (A : Option Addr) (c base T : Nat) (h : List Value) (h3 : h.length = 3) (L : List Gly) (look : ByteArray → Option Value) (n : Nat) (lv : Value) (M : Nat) (w : World)
    (hT : T < base) (hbs : base ≤ w.heap.size) (hl : L.length + G.length ≤ 1000) (hn : n + G.length ≤ 1000) (hsz : ∀ g ∈ G, g.glyph.size ≤ 100) (ht : TabAt w base T h L look n lv M) (hh : HoldsG w A G)
    (hA : ∀ b off, A = some ⟨b, off, none⟩ → b ≠ T ∧ b ≠ M ∧ lv.ownBlock ≠ some b) :
    Calls Tryz.prog 119 #[.pointer (some ⟨T, 0, none⟩), .slice A G.length c] w fun e w' => e = .returned (.tuple #[]) ∧ (∃ lv', TabAt w' base T h (L ++ G) (addLook look G) (n + G.length) lv' M) ∧ KeptBut base T w w' := by
  match h, h3 with
  | [hd, hs, he], _ =>
  have HH := Lib.hid hh
  have HT := Lib.hid ht
  have HSZ := Lib.hid hsz
  have HA := Lib.hid hA
  clear hh ht hsz hA
  go_enter Tryz.func119, Tryz.ntmps119
  go_wp2_with fail
  go_loopw [8] (fun s wr => ∃ (i : Nat) (lv1 : Value), s = .int .i64 i ∧ i ≤ G.length ∧ Hid (TabAt wr base T [hd, hs, he] (L ++ G.take i) (addLook look (G.take i)) (n + i) lv1 M) ∧ Hid (KeptX T M lv.ownBlock w wr) ∧ Hid (lv1.ownBlock = lv.ownBlock ∨ ∃ k, lv1.ownBlock = some k ∧ w.heap.size ≤ k)) (fun s _ => G.length - (intOf s).toNat)
  case atStart => exact ⟨0, lv, rfl, Nat.zero_le _, Lib.hid (by simpa [addLook] using HT.out), Lib.hid (KeptX.refl _ _ _ _), Lib.hid (.inl rfl)⟩
  case round =>
    obtain ⟨i, lv1, rfl, hi, HTb, HB, HO⟩ := hrel
    by_cases hlt : i < G.length
    · have g1 := List.getElem?_eq_getElem hlt
      have hmem := List.getElem_mem hlt
      generalize G[i] = x at *
      obtain ⟨b, off, rfl, c0, c1, c2⟩ := HH.out i x g1
      obtain ⟨ha1, ha2, ha3⟩ := HA.out b off rfl
      have lb : b < w.heap.size := cell_lt c0
      have hbb := HB.out.block b lb ha1 ha2 ha3
      have cs : ∀ o, wr.cell? ⟨b, o, none⟩ = w.cell? ⟨b, o, none⟩ := fun o => by simp only [World.cell?, hbb]
      have d0 := (cs _).trans c0
      have d1 := (cs _).trans c1
      have d2 := (cs _).trans c2
      clear cs hbb c0 c1 c2
      have tb := HTb.out
      have hrowT := tb.row
      have lT : T < wr.heap.size := (Array.getElem?_eq_some_iff.1 hrowT).1
      have lM : M < wr.heap.size := by
        obtain ⟨_, ⟨es, c, h1, _⟩, _⟩ := tb.by_
        exact (Array.getElem?_eq_some_iff.1 h1).1
      have hsz := HB.out.size
      have hgz := HSZ.out x hmem
      have hk := Tryz.underlying9
      have hmt := Tryz.underlying182
      have hB0 : Below wr.heap.size wr (wr.alloc (.cells #[.string x.glyph, .string x.letter, .int .i64 x.cls] tG)) := (Below.refl _ wr).alloc (Nat.le_refl _) _
      have hX0 := heap_alloc_new wr (.cells #[.string x.glyph, .string x.letter, .int .i64 x.cls] tG)
      have hz0 : (wr.alloc (.cells #[.string x.glyph, .string x.letter, .int .i64 x.cls] tG)).heap.size = wr.heap.size + 1 := by simp
      have HTK : Hid (L ++ G.take i ++ [x] = L ++ G.take (i + 1)) := Lib.hid (by rw [take_one g1, List.append_assoc])
      have HLK : Hid (addLook look (G.take (i + 1)) = fun y => if y = x.glyph then some x.val else addLook look (G.take i) y) := Lib.hid (by
        rw [take_one g1]
        unfold addLook
        rw [List.foldl_append]
        rfl)
      have hlen : (L ++ G.take i).length ≤ 1000 := by rw [List.length_append, List.length_take]; omega
      generalize L ++ G.take i = Li at *
      generalize addLook look (G.take i) = lk at *
      obtain ⟨A5, c5, rfl, _⟩ := holdsG_of_own tb.l
      clear g1 hmem
      go_wp2_with fail
      generalize hX : wr.heap.size = X at *
      generalize wr.alloc (.cells #[.string x.glyph, .string x.letter, .int .i64 x.cls] tG) = w1 at *
      have hrow1 := (hB0.block T lT).trans hrowT
      have hl1 := own_below tb.l (by rw [hX]; exact hB0)
      have hm1 := tb.by_.below (by rw [hX]; exact hB0)
      have t3 : w1.cell? ⟨T, 3, none⟩ = some (.slice A5 Li.length c5) := by simp [World.cell?, hrow1]
      have x0 : w1.cell? ⟨X, 0, none⟩ = some (.string x.glyph) := by simp [World.cell?, hX0]
      have x1 : w1.cell? ⟨X, 1, none⟩ = some (.string x.letter) := by simp [World.cell?, hX0]
      have x2 : w1.cell? ⟨X, 2, none⟩ = some (.int .i64 x.cls) := by simp [World.cell?, hX0]
      obtain ⟨A9, c9, w9, hrun, hN9, hgr9, hat9⟩ := push_gly (x := x) (g := X + 1) (W := (w1.alloc (.cells #[.string x.glyph, .string x.letter, .int .i64 x.cls] tG)).drew) (by rw [← hz0]; exact heap_alloc_new w1 _) ((hl1.alloc _).drew) (by omega) (by simp; omega)
      have hgT : X ≠ T := by omega
      have hlow2 : Below X wr ((w1.alloc (.cells #[.string x.glyph, .string x.letter, .int .i64 x.cls] tG)).drew) := (hB0.alloc (by omega) _).drew
      have hrow2 := (hlow2.block T lT).trans hrowT
      have hrow3 : w9.heap[T]? = some (.cells #[hd, hs, he, .slice A5 Li.length c5, .map (some M)] tT (0, 0)) := (hgr9.block T (by simp; omega) (fun e => (own_apart_cells hl1 hrow1 (by decide)) e.symm)).trans hrow2
      have hX2 : ((w1.alloc (.cells #[.string x.glyph, .string x.letter, .int .i64 x.cls] tG)).drew).heap[X]? = some (.cells #[.string x.glyph, .string x.letter, .int .i64 x.cls] tG (0, 0)) := (Lib.alloc_old w1 _ X (by omega)).trans hX0
      have hlX : (Value.slice A5 Li.length c5).ownBlock ≠ some X := fun e => by
        have := (tb.l.lt _ e).2
        omega
      have hX3 : w9.heap[X]? = some (.cells #[.string x.glyph, .string x.letter, .int .i64 x.cls] tG (0, 0)) := (hgr9.block X (by simp; omega) (fun e => hlX e.symm)).trans hX2
      have y3 : ((w1.alloc (.cells #[.string x.glyph, .string x.letter, .int .i64 x.cls] tG)).drew).cell? ⟨T, 3, none⟩ = some (.slice A5 Li.length c5) := by simp [World.cell?, hrow2]
      have z3 : w9.cell? ⟨T, 3, none⟩ = some (.slice A5 Li.length c5) := by simp [World.cell?, hrow3]
      have zf : w9.frozen? ⟨T, 3, none⟩ = false := frozen_of_row w9 _ 3 _ _ hrow3
      have hmB : MapIs ((w1.alloc (.cells #[.string x.glyph, .string x.letter, .int .i64 x.cls] tG)).drew) Tryz.prog 9 M (n + i) lk := tb.by_.below (by rw [hX]; exact hlow2)
      have hlM : (Value.slice A5 Li.length c5).ownBlock ≠ some M := own_apart_map tb.l tb.by_
      have hm9 := hmB.kept hgr9 (fun e => hlM e.symm)
      have hlowT : Below T wr w9 := (hlow2.mono (by omega)).grown hgr9 (by simp; omega) (fun k e => by have := ownBlock_ge tb.l k e; omega)
      have w0 : ((w1.alloc (.cells #[.string x.glyph, .string x.letter, .int .i64 x.cls] tG)).drew).cell? ⟨X, 0, none⟩ = some (.string x.glyph) := by simp [World.cell?, hX2]
      have w2 : ((w1.alloc (.cells #[.string x.glyph, .string x.letter, .int .i64 x.cls] tG)).drew).cell? ⟨X, 1, none⟩ = some (.string x.letter) := by simp [World.cell?, hX2]
      have w3 : ((w1.alloc (.cells #[.string x.glyph, .string x.letter, .int .i64 x.cls] tG)).drew).cell? ⟨X, 2, none⟩ = some (.int .i64 x.cls) := by simp [World.cell?, hX2]
      have v0 : w9.cell? ⟨X, 0, none⟩ = some (.string x.glyph) := by simp [World.cell?, hX3]
      have v1 : w9.cell? ⟨X, 1, none⟩ = some (.string x.letter) := by simp [World.cell?, hX3]
      have v2 : w9.cell? ⟨X, 2, none⟩ = some (.int .i64 x.cls) := by simp [World.cell?, hX3]
      refine wp_region_ordz (S := fun w' => w'.cell? ⟨T, 3, none⟩ = some (.slice A5 Li.length c5) ∧ w'.cell? ⟨X, 0, none⟩ = some (.string x.glyph) ∧ w'.cell? ⟨X, 1, none⟩ = some (.string x.letter) ∧ w'.cell? ⟨X, 2, none⟩ = some (.int .i64 x.cls)) [0, 1, 2, 3, 4, 5] [6, 7, 8, 9, 10] 10 (by kernel_rfl) (by kernel_rfl) (fun _ _ _ _ _ h => h) ⟨t3, x0, x1, x2⟩ ?_
      simp only [pick, List.filterMap_cons, List.filterMap_nil, List.getElem?_toArray, List.getElem?_cons_zero, List.getElem?_cons_succ]
      repeat (refine wpHead_step (v := ?_) rfl ?_ ?_; rotate_left; (focus (rintro w1 ⟨t3', x0', x1', x2'⟩; go_simp; try with_reducible rfl)); simp only [Act.put, List.setIfInBounds_toArray, List.set_cons_zero, List.set_cons_succ])
      refine wpHead_nil ?_
      refine wpTailZ_step rfl (fun K hK => ?_)
      go_wp2_with fail
      refine hK _ _ ⟨y3, w0, w2, w3⟩ ?_
      clear hK K
      try simp only [Act.put, List.setIfInBounds_toArray, List.set_cons_zero, List.set_cons_succ]
      refine wpTailZ_step rfl (fun K hK => ?_)
      refine wp_append_run _ _ 181 181 rfl rfl rfl hrun ?_
      refine hK _ _ ⟨z3, v0, v1, v2⟩ ?_
      clear hK K
      try simp only [Act.put, List.setIfInBounds_toArray, List.set_cons_zero, List.set_cons_succ]
      refine wpTailZ_step rfl (fun K hK => ?_)
      go_wp2_with fail
      refine hK _ _ ⟨z3, v0, v1, v2⟩ ?_
      clear hK K
      try simp only [Act.put, List.setIfInBounds_toArray, List.set_cons_zero, List.set_cons_succ]
      refine wpTailZ_step rfl (fun K hK => ?_)
      go_wp2_with fail
      refine hK _ _ ⟨z3, v0, v1, v2⟩ ?_
      clear hK K
      try simp only [Act.put, List.setIfInBounds_toArray, List.set_cons_zero, List.set_cons_succ]
      refine wpTailZ_last rfl (fun K hK => ?_)
      go_wp2_with fail
      have hrow4 : (w9.setCell ⟨T, 3, none⟩ (.slice A9 (Li.length + 1) c9)).heap[T]? = some (.cells #[hd, hs, he, .slice A9 (Li.length + 1) c9, .map (some M)] tT (0, 0)) := by
        rw [heap_setCell_same w9 T 3 _ _ _ hrow3]
        simp
      have hN10 : (w9.setCell ⟨T, 3, none⟩ (.slice A9 (Li.length + 1) c9)).ownsRow base tG 3 (.slice A9 (Li.length + 1) c9) (Li ++ [x]).length (glyCells (Li ++ [x])) :=
        hN9.kept (grown_setCell w9 ⟨T, 3, none⟩ _) (Or.inr (fun e => own_apart_cells hN9 hrow3 (by decide) e))
      have hMT : M ≠ T := by have := tb.low; omega
      have hm10 := hm9.kept (grown_setCell w9 ⟨T, 3, none⟩ (.slice A9 (Li.length + 1) c9)) (by simp; exact hMT)
      have hX4 : (w9.setCell ⟨T, 3, none⟩ (.slice A9 (Li.length + 1) c9)).heap[X]? = some (.cells #[.string x.glyph, .string x.letter, .int .i64 x.cls] tG (0, 0)) := (heap_setCell_other _ _ _ _ hgT).trans hX3
      have hkx : KeptX T M lv.ownBlock w (w9.setCell ⟨T, 3, none⟩ (.slice A9 (Li.length + 1) c9)) :=
        ⟨(hgr9.os.trans hlow2.os).trans HB.out.os, (hgr9.tape.trans hlow2.tape).trans HB.out.tape, (hgr9.output.trans hlow2.output).trans HB.out.output, by have := hgr9.size; simp at this ⊢; omega, fun k hk1 hk2 hk3 hk4 => by
          refine (heap_setCell_other _ _ _ _ hk2).trans ((hgr9.block k (by simp; omega) (fun e => ?_)).trans ((hlow2.block k (by omega)).trans (HB.out.block k hk1 hk2 hk3 hk4)))
          rcases HO.out with ho | ⟨k', ho, hk'⟩
          · exact hk4 (by rw [← ho]; exact e.symm)
          · rw [ho] at e
            cases e
            omega⟩
      have hsz9 : wr.heap.size + 2 ≤ w9.heap.size := by have := hgr9.size; simp at this; omega
      clear hrun w0 w2 w3 v0 v1 v2 y3 z3 zf hrow2 hrow3 hX2 hX3 hlow2 hlowT t3 x0 x1 x2 hX0 hrow1 hl1 hm1 hm9 hmB
      generalize w9.setCell ⟨T, 3, none⟩ (.slice A9 (Li.length + 1) c9) = w10 at *
      have p4 : w10.cell? ⟨T, 4, none⟩ = some (.map (some M)) := by simp [World.cell?, hrow4]
      have x0 : w10.cell? ⟨X, 0, none⟩ = some (.string x.glyph) := by simp [World.cell?, hX4]
      have x1 : w10.cell? ⟨X, 1, none⟩ = some (.string x.letter) := by simp [World.cell?, hX4]
      have x2 : w10.cell? ⟨X, 2, none⟩ = some (.int .i64 x.cls) := by simp [World.cell?, hX4]
      obtain ⟨w11, r11, m11, g11⟩ := (show MapIs w10.drew Tryz.prog 9 M (n + i) lk from hm10).put hk hmt (by unfold maxLen; omega) x.glyph (by unfold maxLen; omega) x.val
      unfold Gly.val at r11
      refine wp_region_ordz (S := fun w' => w'.cell? ⟨T, 4, none⟩ = some (.map (some M)) ∧ w'.cell? ⟨X, 0, none⟩ = some (.string x.glyph) ∧ w'.cell? ⟨X, 1, none⟩ = some (.string x.letter) ∧ w'.cell? ⟨X, 2, none⟩ = some (.int .i64 x.cls)) [0, 1, 2, 3, 4, 5, 6] [7] 7 (by kernel_rfl) (by kernel_rfl) (fun _ _ _ _ _ h => h) ⟨p4, x0, x1, x2⟩ ?_
      simp only [pick, List.filterMap_cons, List.filterMap_nil, List.getElem?_toArray, List.getElem?_cons_zero, List.getElem?_cons_succ]
      repeat (refine wpHead_step (v := ?_) rfl ?_ ?_; rotate_left; (focus (rintro w1 ⟨t3', x0', x1', x2'⟩; go_simp; try with_reducible rfl)); simp only [Act.put, List.setIfInBounds_toArray, List.set_cons_zero, List.set_cons_succ])
      refine wpHead_nil ?_
      refine wpTailZ_last rfl (fun K hK => ?_)
      go_wp2_with fail
      go_roundw
      case rel =>
        refine ⟨i + 1, .slice A9 (Li.length + 1) c9, by go_num, by omega, Lib.hid ?_, Lib.hid ?_, Lib.hid ?_⟩
        · rw [← HTK.out, HLK.out]
          refine ⟨(g11.block T (by have := (Array.getElem?_eq_some_iff.1 hrow4).1; exact this) (by simp; exact hMT.symm)).trans hrow4, ?_, m11, tb.low⟩
          exact World.ownsRow.kept (w := w10.drew) hN10 g11 (Or.inr (fun e => own_apart_map hN10 hm10 e))
        · refine ⟨g11.os.trans hkx.os, g11.tape.trans hkx.tape, g11.output.trans hkx.output, Nat.le_trans hkx.size g11.size, fun k hk1 hk2 hk3 hk4 => ?_⟩
          exact (g11.block k (Nat.lt_of_lt_of_le hk1 hkx.size) (by simp; exact hk3)).trans (hkx.block k hk1 hk2 hk3 hk4)
        · rcases hat9 with e | e
          · rw [e]; exact HO.out
          · exact .inr ⟨_, e, by show w.heap.size ≤ (w1.alloc _).heap.size; simp; omega⟩
      case measure => simp [intOf]; omega
    · obtain rfl : i = G.length := by omega
      have hTm := HTb.out
      rw [List.take_of_length_le (Nat.le_refl _)] at hTm
      have HTm := Lib.hid hTm
      clear hTm
      go_wp2_with fail
      go_end0
      have hlv := HT.out.l
      exact ⟨rfl, ⟨_, HTm.out⟩, HB.out.but hbs HT.out.low (fun k e => ownBlock_ge hlv k e)⟩
end Go.Proofs.YtflpihedhccdfaaGreatDoor
