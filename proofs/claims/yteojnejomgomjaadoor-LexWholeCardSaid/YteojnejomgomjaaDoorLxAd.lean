/-
  The table of glyphs: what is added to it.
-/
import Derived.Test.YteojnejomgomjaaDoorProg
import Derived.Test.YteojnejomgomjaaDoorReg
import Derived.WalkKit
import Derived.WalkSpells
import Derived.WalkLawsBesides
import Derived.Lib.Hide
import Derived.Lib.MinMax
import Derived.Deep.QuietTactic
import Derived.BigQuiet
import Derived.OwnWalk
import Derived.Deep.AppendLies
import Derived.KernelRfl
import Derived.Maps.OwnSet
import Derived.Deep.OwnRows
import Derived.OneCell
import Derived.Laws.Rows
import Derived.Test.YteojnejomgomjaaDoorLxG
set_option linter.unusedSimpArgs false
set_option linter.unusedVariables false
namespace Go.Proofs.YteojnejomgomjaaDoor
open Go.RowKit Go.Maps

def addLook (look : ByteArray → Option Value) (l : List Gly) : ByteArray → Option Value := l.foldl (fun f g => fun x => if x = g.glyph then some g.val else f x) look
/-- The table's row; its list; its map. -/
structure TabAt (w : World) (base T : Nat) (h : List Value) (L : List Gly) (look : ByteArray → Option Value) (n : Nat) (lv : Value) (M : Nat) : Prop where
  row : w.heap[T]? = some (.cells (h ++ [lv, .map (some M)]).toArray tT (0, 0))
  l : w.ownsRow base tG 3 lv L.length (glyCells L)
  by_ : MapIs w Tryd.prog 9 M n look
  low : base ≤ M
/-- All blocks below base but T's stay. -/
structure KeptBut (base T : Nat) (w w' : World) : Prop where
  os : w'.os = w.os
  tape : w'.tape = w.tape
  output : w'.output = w.output
  size : w.heap.size ≤ w'.heap.size
  block : ∀ k, k < base → k ≠ T → w'.heap[k]? = w.heap[k]?
theorem KeptBut.refl (base T : Nat) (w : World) : KeptBut base T w w := ⟨rfl, rfl, rfl, Nat.le_refl _, fun _ _ _ => rfl⟩
theorem KeptBut.trans {base T : Nat} {a b c : World} (h1 : KeptBut base T a b) (h2 : KeptBut base T b c) : KeptBut base T a c :=
  ⟨h2.os.trans h1.os, h2.tape.trans h1.tape, h2.output.trans h1.output, Nat.le_trans h1.size h2.size, fun k hk hne => (h2.block k hk hne).trans (h1.block k hk hne)⟩
theorem KeptBut.of_below {base T n : Nat} {a b : World} (h : Below n a b) (hn : base ≤ n) : KeptBut base T a b := ⟨h.os, h.tape, h.output, h.size, fun k hk _ => h.block k (by omega)⟩
theorem KeptBut.grown {base T : Nat} {a b : World} {r : Option Nat} (h : a.grownBy b r) (hs : base ≤ a.heap.size) (hr : ∀ k, r = some k → base ≤ k) : KeptBut base T a b := by
  refine ⟨h.os, h.tape, h.output, h.size, fun k hk _ => h.block k (by omega) (fun e => ?_)⟩
  have := hr k (by rw [e])
  omega
theorem KeptBut.setT (base T o : Nat) (w : World) (v : Value) : KeptBut base T w (w.setCell ⟨T, o, none⟩ v) := by
  refine ⟨rfl, rfl, rfl, by simp [World.setCell], fun k _ hne => ?_⟩
  rw [heap_setCell_other _ _ _ _ hne]

/-- All blocks but T's, M's and a row's stay. -/
structure KeptX (T M : Nat) (o : Option Nat) (w w' : World) : Prop where
  os : w'.os = w.os
  tape : w'.tape = w.tape
  output : w'.output = w.output
  size : w.heap.size ≤ w'.heap.size
  block : ∀ k, k < w.heap.size → k ≠ T → k ≠ M → o ≠ some k → w'.heap[k]? = w.heap[k]?
theorem KeptX.refl (T M : Nat) (o : Option Nat) (w : World) : KeptX T M o w w := ⟨rfl, rfl, rfl, Nat.le_refl _, fun _ _ _ _ _ => rfl⟩
theorem KeptX.but {T M base : Nat} {o : Option Nat} {w w' : World} (h : KeptX T M o w w') (hb : base ≤ w.heap.size) (hM : base ≤ M) (ho : ∀ k, o = some k → base ≤ k) : KeptBut base T w w' :=
  ⟨h.os, h.tape, h.output, h.size, fun k hk hne => h.block k (by omega) hne (by omega) (fun e => by have := ho k e; omega)⟩

theorem own_apart_cells {w : World} {b : Nat} {e t : TypeId} {size : Nat} {v : Value} {n : Nat} {xs : List Value} {k : Nat} {cs : Array Value} {fr : Nat × Nat} (h : w.ownsRow b e size v n xs) (hk : w.heap[k]? = some (.cells cs t fr)) (hne : t ≠ e) : v.ownBlock ≠ some k := by
  intro hv
  rcases h.2 with ⟨rfl, _⟩ | ⟨g, cap, cur, rfl, _, hg, _⟩
  · simp [Value.ownBlock] at hv
  · simp [Value.ownBlock] at hv
    subst hv
    rw [hk] at hg
    simp only [Option.some.injEq, Obj.cells.injEq] at hg
    exact hne hg.2.1
theorem grown_setCell (w : World) (a : Addr) (v : Value) : w.grownBy (w.setCell a v) (some a.block) :=
  ⟨rfl, rfl, rfl, by simp [World.setCell], fun k _ hk => heap_setCell_other _ _ _ _ (fun e => hk (by rw [e]))⟩
theorem own_apart_map {w : World} {b : Nat} {e k : TypeId} {size : Nat} {v : Value} {n m M : Nat} {xs : List Value} {look : ByteArray → Option Value} {P : Program} (h : w.ownsRow b e size v n xs) (hM : MapIs w P k M m look) : v.ownBlock ≠ some M := by
  intro hv
  obtain ⟨_, ⟨es, c, h1, _⟩, _⟩ := hM
  rcases h.2 with ⟨rfl, _⟩ | ⟨g, cap, cur, rfl, _, hg, _⟩
  · simp [Value.ownBlock] at hv
  · simp [Value.ownBlock] at hv
    subst hv
    rw [h1] at hg
    cases hg

set_option maxRecDepth 100000 in
set_option maxHeartbeats 8000000 in
theorem add_any (G : List Gly) (A : Option Addr) (c base T : Nat) (h : List Value) (h3 : h.length = 3) (L : List Gly) (look : ByteArray → Option Value) (n : Nat) (lv : Value) (M : Nat) (w : World)
    (hT : T < base) (hbs : base ≤ w.heap.size) (hl : L.length + G.length ≤ 1000) (hn : n + G.length ≤ 1000) (hsz : ∀ g ∈ G, g.glyph.size ≤ 100) (ht : TabAt w base T h L look n lv M) (hh : HoldsG w A G)
    (hA : ∀ b off, A = some ⟨b, off, none⟩ → b ≠ T ∧ b ≠ M ∧ lv.ownBlock ≠ some b) :
    Calls Tryd.prog 62 #[.pointer (some ⟨T, 0, none⟩), .slice A G.length c] w fun e w' => e = .returned (.tuple #[]) ∧ (∃ lv', TabAt w' base T h (L ++ G) (addLook look G) (n + G.length) lv' M) ∧ KeptBut base T w w' := by
  match h, h3 with
  | [hd, hs, he], _ =>
  have HH := Lib.hid hh
  have HT := Lib.hid ht
  have HSZ := Lib.hid hsz
  have HA := Lib.hid hA
  clear hh ht hsz hA
  go_enter Tryd.func62, Tryd.ntmps62
  go_wp2_with fail
  go_loopw [8] (fun s wr => ∃ (i : Nat) (lv1 : Value), s = .int .i64 i ∧ i ≤ G.length ∧ Hid (TabAt wr base T [hd, hs, he] (L ++ G.take i) (addLook look (G.take i)) (n + i) lv1 M) ∧ Hid (KeptX T M lv.ownBlock w wr) ∧ Hid (lv1.ownBlock = lv.ownBlock ∨ ∃ k, lv1.ownBlock = some k ∧ w.heap.size ≤ k)) (fun s _ => G.length - (intOf s).toNat)
  case atStart => exact ⟨0, lv, rfl, Nat.zero_le _, Lib.hid (by simpa [addLook] using HT.out), Lib.hid (KeptX.refl _ _ _ _), Lib.hid (.inl rfl)⟩
  case round =>
    obtain ⟨i, lv1, rfl, hi, HTb, HB, HO⟩ := hrel
    by_cases hlt : i < G.length
    · have g1 := List.getElem?_eq_getElem hlt
      have hmem := List.getElem_mem hlt
      generalize G[i] = x at *
      obtain ⟨b, off, rfl, c0, c1, c2⟩ := HH.out i x g1
      obtain ⟨ha1, ha2, ha3⟩ := HA.out b off rfl
      have lb : b < w.heap.size := cell_lt c0
      have hbb := HB.out.block b lb ha1 ha2 ha3
      have cs : ∀ o, wr.cell? ⟨b, o, none⟩ = w.cell? ⟨b, o, none⟩ := fun o => by simp only [World.cell?, hbb]
      have d0 := (cs _).trans c0
      have d1 := (cs _).trans c1
      have d2 := (cs _).trans c2
      clear cs hbb c0 c1 c2
      have tb := HTb.out
      have hrowT := tb.row
      have lT : T < wr.heap.size := (Array.getElem?_eq_some_iff.1 hrowT).1
      have lM : M < wr.heap.size := by
        obtain ⟨_, ⟨es, c, h1, _⟩, _⟩ := tb.by_
        exact (Array.getElem?_eq_some_iff.1 h1).1
      have hsz := HB.out.size
      have hgz := HSZ.out x hmem
      have hk := Tryd.underlying9
      have hmt := Tryd.underlying87
      have hB0 : Below wr.heap.size wr (wr.alloc (.cells #[.string x.glyph, .string x.letter, .int .i64 x.cls] tG)) := (Below.refl _ wr).alloc (Nat.le_refl _) _
      have hX0 := heap_alloc_new wr (.cells #[.string x.glyph, .string x.letter, .int .i64 x.cls] tG)
      have hz0 : (wr.alloc (.cells #[.string x.glyph, .string x.letter, .int .i64 x.cls] tG)).heap.size = wr.heap.size + 1 := by simp
      have HTK : Hid (L ++ G.take i ++ [x] = L ++ G.take (i + 1)) := Lib.hid (by rw [take_one g1, List.append_assoc])
      have HLK : Hid (addLook look (G.take (i + 1)) = fun y => if y = x.glyph then some x.val else addLook look (G.take i) y) := Lib.hid (by
        rw [take_one g1]
        unfold addLook
        rw [List.foldl_append]
        rfl)
      have hlen : (L ++ G.take i).length ≤ 1000 := by rw [List.length_append, List.length_take]; omega
      generalize L ++ G.take i = Li at *
      generalize addLook look (G.take i) = lk at *
      obtain ⟨A5, c5, rfl, _⟩ := holdsG_of_own tb.l
      clear g1 hmem
      go_wp2_with fail
      generalize hX : wr.heap.size = X at *
      generalize wr.alloc (.cells #[.string x.glyph, .string x.letter, .int .i64 x.cls] tG) = w1 at *
      have hrow1 := (hB0.block T lT).trans hrowT
      have hl1 := own_below tb.l (by rw [hX]; exact hB0)
      have hm1 := tb.by_.below (by rw [hX]; exact hB0)
      have t3 : w1.cell? ⟨T, 3, none⟩ = some (.slice A5 Li.length c5) := by simp [World.cell?, hrow1]
      have x0 : w1.cell? ⟨X, 0, none⟩ = some (.string x.glyph) := by simp [World.cell?, hX0]
      have x1 : w1.cell? ⟨X, 1, none⟩ = some (.string x.letter) := by simp [World.cell?, hX0]
      have x2 : w1.cell? ⟨X, 2, none⟩ = some (.int .i64 x.cls) := by simp [World.cell?, hX0]
      obtain ⟨A9, c9, w9, hrun, hN9, hgr9, hat9⟩ := push_gly (x := x) (g := X + 1) (W := (w1.alloc (.cells #[.string x.glyph, .string x.letter, .int .i64 x.cls] tG)).drew) (by rw [← hz0]; exact heap_alloc_new w1 _) ((hl1.alloc _).drew) (by omega) (by simp; omega)
      have hgT : X ≠ T := by omega
      have hlow2 : Below X wr ((w1.alloc (.cells #[.string x.glyph, .string x.letter, .int .i64 x.cls] tG)).drew) := (hB0.alloc (by omega) _).drew
      have hrow2 := (hlow2.block T lT).trans hrowT
      have hrow3 : w9.heap[T]? = some (.cells #[hd, hs, he, .slice A5 Li.length c5, .map (some M)] tT (0, 0)) := (hgr9.block T (by simp; omega) (fun e => (own_apart_cells hl1 hrow1 (by decide)) e.symm)).trans hrow2
      have hX2 : ((w1.alloc (.cells #[.string x.glyph, .string x.letter, .int .i64 x.cls] tG)).drew).heap[X]? = some (.cells #[.string x.glyph, .string x.letter, .int .i64 x.cls] tG (0, 0)) := (Lib.alloc_old w1 _ X (by omega)).trans hX0
      have hlX : (Value.slice A5 Li.length c5).ownBlock ≠ some X := fun e => by
        have := (tb.l.lt _ e).2
        omega
      have hX3 : w9.heap[X]? = some (.cells #[.string x.glyph, .string x.letter, .int .i64 x.cls] tG (0, 0)) := (hgr9.block X (by simp; omega) (fun e => hlX e.symm)).trans hX2
      have y3 : ((w1.alloc (.cells #[.string x.glyph, .string x.letter, .int .i64 x.cls] tG)).drew).cell? ⟨T, 3, none⟩ = some (.slice A5 Li.length c5) := by simp [World.cell?, hrow2]
      have z3 : w9.cell? ⟨T, 3, none⟩ = some (.slice A5 Li.length c5) := by simp [World.cell?, hrow3]
      have zf : w9.frozen? ⟨T, 3, none⟩ = false := frozen_of_row w9 _ 3 _ _ hrow3
      have hmB : MapIs ((w1.alloc (.cells #[.string x.glyph, .string x.letter, .int .i64 x.cls] tG)).drew) Tryd.prog 9 M (n + i) lk := tb.by_.below (by rw [hX]; exact hlow2)
      have hlM : (Value.slice A5 Li.length c5).ownBlock ≠ some M := own_apart_map tb.l tb.by_
      have hm9 := hmB.kept hgr9 (fun e => hlM e.symm)
      have hlowT : Below T wr w9 := (hlow2.mono (by omega)).grown hgr9 (by simp; omega) (fun k e => by have := ownBlock_ge tb.l k e; omega)
      have w0 : ((w1.alloc (.cells #[.string x.glyph, .string x.letter, .int .i64 x.cls] tG)).drew).cell? ⟨X, 0, none⟩ = some (.string x.glyph) := by simp [World.cell?, hX2]
      have w2 : ((w1.alloc (.cells #[.string x.glyph, .string x.letter, .int .i64 x.cls] tG)).drew).cell? ⟨X, 1, none⟩ = some (.string x.letter) := by simp [World.cell?, hX2]
      have w3 : ((w1.alloc (.cells #[.string x.glyph, .string x.letter, .int .i64 x.cls] tG)).drew).cell? ⟨X, 2, none⟩ = some (.int .i64 x.cls) := by simp [World.cell?, hX2]
      have v0 : w9.cell? ⟨X, 0, none⟩ = some (.string x.glyph) := by simp [World.cell?, hX3]
      have v1 : w9.cell? ⟨X, 1, none⟩ = some (.string x.letter) := by simp [World.cell?, hX3]
      have v2 : w9.cell? ⟨X, 2, none⟩ = some (.int .i64 x.cls) := by simp [World.cell?, hX3]
      refine wp_region_ordz (S := fun w' => w'.cell? ⟨T, 3, none⟩ = some (.slice A5 Li.length c5) ∧ w'.cell? ⟨X, 0, none⟩ = some (.string x.glyph) ∧ w'.cell? ⟨X, 1, none⟩ = some (.string x.letter) ∧ w'.cell? ⟨X, 2, none⟩ = some (.int .i64 x.cls)) [0, 1, 2, 3, 4, 5] [6, 7, 8, 9, 10] 10 (by kernel_rfl) (by kernel_rfl) (fun _ _ _ _ _ h => h) ⟨t3, x0, x1, x2⟩ ?_
      simp only [pick, List.filterMap_cons, List.filterMap_nil, List.getElem?_toArray, List.getElem?_cons_zero, List.getElem?_cons_succ]
      repeat (refine wpHead_step (v := ?_) rfl ?_ ?_; rotate_left; (focus (rintro w1 ⟨t3', x0', x1', x2'⟩; go_simp; try with_reducible rfl)); simp only [Act.put, List.setIfInBounds_toArray, List.set_cons_zero, List.set_cons_succ])
      refine wpHead_nil ?_
      refine wpTailZ_step rfl (fun K hK => ?_)
      go_wp2_with fail
      refine hK _ _ ⟨y3, w0, w2, w3⟩ ?_
      clear hK K
      try simp only [Act.put, List.setIfInBounds_toArray, List.set_cons_zero, List.set_cons_succ]
      refine wpTailZ_step rfl (fun K hK => ?_)
      refine wp_append_run _ _ 86 86 rfl rfl rfl hrun ?_
      refine hK _ _ ⟨z3, v0, v1, v2⟩ ?_
      clear hK K
      try simp only [Act.put, List.setIfInBounds_toArray, List.set_cons_zero, List.set_cons_succ]
      refine wpTailZ_step rfl (fun K hK => ?_)
      go_wp2_with fail
      refine hK _ _ ⟨z3, v0, v1, v2⟩ ?_
      clear hK K
      try simp only [Act.put, List.setIfInBounds_toArray, List.set_cons_zero, List.set_cons_succ]
      refine wpTailZ_step rfl (fun K hK => ?_)
      go_wp2_with fail
      refine hK _ _ ⟨z3, v0, v1, v2⟩ ?_
      clear hK K
      try simp only [Act.put, List.setIfInBounds_toArray, List.set_cons_zero, List.set_cons_succ]
      refine wpTailZ_last rfl (fun K hK => ?_)
      go_wp2_with fail
      have hrow4 : (w9.setCell ⟨T, 3, none⟩ (.slice A9 (Li.length + 1) c9)).heap[T]? = some (.cells #[hd, hs, he, .slice A9 (Li.length + 1) c9, .map (some M)] tT (0, 0)) := by
        rw [heap_setCell_same w9 T 3 _ _ _ hrow3]
        simp
      have hN10 : (w9.setCell ⟨T, 3, none⟩ (.slice A9 (Li.length + 1) c9)).ownsRow base tG 3 (.slice A9 (Li.length + 1) c9) (Li ++ [x]).length (glyCells (Li ++ [x])) :=
        hN9.kept (grown_setCell w9 ⟨T, 3, none⟩ _) (Or.inr (fun e => own_apart_cells hN9 hrow3 (by decide) e))
      have hMT : M ≠ T := by have := tb.low; omega
      have hm10 := hm9.kept (grown_setCell w9 ⟨T, 3, none⟩ (.slice A9 (Li.length + 1) c9)) (by simp; exact hMT)
      have hX4 : (w9.setCell ⟨T, 3, none⟩ (.slice A9 (Li.length + 1) c9)).heap[X]? = some (.cells #[.string x.glyph, .string x.letter, .int .i64 x.cls] tG (0, 0)) := (heap_setCell_other _ _ _ _ hgT).trans hX3
      have hkx : KeptX T M lv.ownBlock w (w9.setCell ⟨T, 3, none⟩ (.slice A9 (Li.length + 1) c9)) :=
        ⟨(hgr9.os.trans hlow2.os).trans HB.out.os, (hgr9.tape.trans hlow2.tape).trans HB.out.tape, (hgr9.output.trans hlow2.output).trans HB.out.output, by have := hgr9.size; simp at this ⊢; omega, fun k hk1 hk2 hk3 hk4 => by
          refine (heap_setCell_other _ _ _ _ hk2).trans ((hgr9.block k (by simp; omega) (fun e => ?_)).trans ((hlow2.block k (by omega)).trans (HB.out.block k hk1 hk2 hk3 hk4)))
          rcases HO.out with ho | ⟨k', ho, hk'⟩
          · exact hk4 (by rw [← ho]; exact e.symm)
          · rw [ho] at e
            cases e
            omega⟩
      have hsz9 : wr.heap.size + 2 ≤ w9.heap.size := by have := hgr9.size; simp at this; omega
      clear hrun w0 w2 w3 v0 v1 v2 y3 z3 zf hrow2 hrow3 hX2 hX3 hlow2 hlowT t3 x0 x1 x2 hX0 hrow1 hl1 hm1 hm9 hmB
      generalize w9.setCell ⟨T, 3, none⟩ (.slice A9 (Li.length + 1) c9) = w10 at *
      have p4 : w10.cell? ⟨T, 4, none⟩ = some (.map (some M)) := by simp [World.cell?, hrow4]
      have x0 : w10.cell? ⟨X, 0, none⟩ = some (.string x.glyph) := by simp [World.cell?, hX4]
      have x1 : w10.cell? ⟨X, 1, none⟩ = some (.string x.letter) := by simp [World.cell?, hX4]
      have x2 : w10.cell? ⟨X, 2, none⟩ = some (.int .i64 x.cls) := by simp [World.cell?, hX4]
      obtain ⟨w11, r11, m11, g11⟩ := (show MapIs w10.drew Tryd.prog 9 M (n + i) lk from hm10).put hk hmt (by unfold maxLen; omega) x.glyph (by unfold maxLen; omega) x.val
      unfold Gly.val at r11
      refine wp_region_ordz (S := fun w' => w'.cell? ⟨T, 4, none⟩ = some (.map (some M)) ∧ w'.cell? ⟨X, 0, none⟩ = some (.string x.glyph) ∧ w'.cell? ⟨X, 1, none⟩ = some (.string x.letter) ∧ w'.cell? ⟨X, 2, none⟩ = some (.int .i64 x.cls)) [0, 1, 2, 3, 4, 5, 6] [7] 7 (by kernel_rfl) (by kernel_rfl) (fun _ _ _ _ _ h => h) ⟨p4, x0, x1, x2⟩ ?_
      simp only [pick, List.filterMap_cons, List.filterMap_nil, List.getElem?_toArray, List.getElem?_cons_zero, List.getElem?_cons_succ]
      repeat (refine wpHead_step (v := ?_) rfl ?_ ?_; rotate_left; (focus (rintro w1 ⟨t3', x0', x1', x2'⟩; go_simp; try with_reducible rfl)); simp only [Act.put, List.setIfInBounds_toArray, List.set_cons_zero, List.set_cons_succ])
      refine wpHead_nil ?_
      refine wpTailZ_last rfl (fun K hK => ?_)
      go_wp2_with fail
      go_roundw
      case rel =>
        refine ⟨i + 1, .slice A9 (Li.length + 1) c9, by go_num, by omega, Lib.hid ?_, Lib.hid ?_, Lib.hid ?_⟩
        · rw [← HTK.out, HLK.out]
          refine ⟨(g11.block T (by have := (Array.getElem?_eq_some_iff.1 hrow4).1; exact this) (by simp; exact hMT.symm)).trans hrow4, ?_, m11, tb.low⟩
          exact World.ownsRow.kept (w := w10.drew) hN10 g11 (Or.inr (fun e => own_apart_map hN10 hm10 e))
        · refine ⟨g11.os.trans hkx.os, g11.tape.trans hkx.tape, g11.output.trans hkx.output, Nat.le_trans hkx.size g11.size, fun k hk1 hk2 hk3 hk4 => ?_⟩
          exact (g11.block k (Nat.lt_of_lt_of_le hk1 hkx.size) (by simp; exact hk3)).trans (hkx.block k hk1 hk2 hk3 hk4)
        · rcases hat9 with e | e
          · rw [e]; exact HO.out
          · exact .inr ⟨_, e, by show w.heap.size ≤ (w1.alloc _).heap.size; simp; omega⟩
      case measure => simp [intOf]; omega
    · obtain rfl : i = G.length := by omega
      have hTm := HTb.out
      rw [List.take_of_length_le (Nat.le_refl _)] at hTm
      have HTm := Lib.hid hTm
      clear hTm
      go_wp2_with fail
      go_end0
      have hlv := HT.out.l
      exact ⟨rfl, ⟨_, HTm.out⟩, HB.out.but hbs HT.out.low (fun k e => ownBlock_ge hlv k e)⟩
end Go.Proofs.YteojnejomgomjaaDoor
