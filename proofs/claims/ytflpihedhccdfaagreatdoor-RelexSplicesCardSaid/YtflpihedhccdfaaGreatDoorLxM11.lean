/-
  A line's tokens: by the program.
-/
import Derived.Test.YtflpihedhccdfaaGreatDoorProg
import Derived.Test.YtflpihedhccdfaaGreatDoorReg
import Derived.WalkKit
import Derived.WalkSpells
import Derived.WalkLawsBesides
import Derived.Lib.Hide
import Derived.Lib.MinMax
import Derived.Deep.QuietTactic
import Derived.BigQuiet
import Derived.OwnWalk
import Derived.Deep.AppendLies
import Derived.KernelRfl
import Derived.Laws.OwnMore
import Derived.Deep.OwnRows
import Derived.Maps.AppendAt
import Derived.Deep.RegionWith
import Derived.Test.YtflpihedhccdfaaGreatDoorLxM5
import Derived.Test.YtflpihedhccdfaaGreatDoorLxM10
import Derived.ArgAppend
import Derived.Shelf.Strings.BuilderF
import Derived.Lib.FrozenHead2
import Derived.Test.YtflpihedhccdfaaGreatDoorLxM6
import Derived.Test.YtflpihedhccdfaaGreatDoorLxM2
import Derived.Test.YtflpihedhccdfaaGreatDoorLxM8
set_option linter.unusedSimpArgs false
set_option linter.unusedVariables false
namespace Go.Proofs.YtflpihedhccdfaaGreatDoor
open Go.RowKit Go.Maps

attribute [local go_sem] Oper.semAt_some

theorem wpListIn_append_run {F : Fence} {n : Nat} {P : Program} {w w' : World} {ops : Array Oper} {rest : List Oper} {o : Oper} {a : Act} {Q : Exit → Act → World → Prop} {v u v' : Value} (hg : o.guard = none) (s x : Operand) (t t2 : TypeId)
    (hop : o.op = .call { callee := .builtin .append, args := #[s, x], argTypes := #[t, t2] }) (hs : a.eval s = v) (hx : a.eval x = u) (hr : (Builtin.append_ #[t, t2] o.type #[v, u]).run P w = .ok v' w') (h : wpListIn F n P ops Q rest (a.put o.dst v') w') : wpListIn F n P ops Q (o :: rest) a w := by
  refine wpListIn_plain hg fun K hK' => ?_
  unfold Oper.wpIn
  refine ⟨?_, ?_⟩
  · simp [Oper.about, hop, resolve, Target.leads, Sem.run_pure]
  · rw [Oper.semAt_plain F _ _ (by rw [hop]; intro c hc'; cases hc')]
    simp [execOp, hop, resolve, invoke, builtin, hs, hx, hr, Result.andThen]
    exact hK' _ _ h
/-- A token is appended. -/
theorem push_tok {W : World} {base : Nat} {v : Value} {l : List Tok} {x : Tok} {g : Nat} (hg : W.heap[g]? = some (.cells #[.int .i64 x.kind, .string x.text, .string x.glyph] tK (0, 0))) (hown : W.ownsRow base tK 3 v l.length (tokCells l)) (hl : l.length ≤ 1000000) (hbase : base ≤ W.heap.size) :
    ∃ A c w', (Builtin.append_ #[35, 35] 35 #[v, .slice (some ⟨g, 0, none⟩) 1 1]).run Tryz.prog W = .ok (.slice A (l.length + 1) c) w' ∧ w'.ownsRow base tK 3 (.slice A (l.length + 1) c) (l ++ [x]).length (tokCells (l ++ [x])) ∧ W.grownBy w' v.ownBlock ∧ ((Value.slice A (l.length + 1) c).ownBlock = v.ownBlock ∨ (Value.slice A (l.length + 1) c).ownBlock = some W.heap.size) := by
  obtain ⟨i0, hi0, hz0, hz1, hz2⟩ := info_parts infoTok
  obtain ⟨v', w', hr, ho, hgr, _, hat⟩ := run_append_own_at (P := Tryz.prog) W base 35 35 tK i0 _ 3 40 Tryz.underlying35 hi0 hz0 hz1 hz2 rfl (by decide) v l.length (tokCells l) hown ⟨g, 0, none⟩ 1 1 x.cells rfl
    (World.news_of_block (cs := x.cells.toArray) (t := tK) (fr := (0, 0)) hg) (by simp [Tok.cells, Value.oneCell']) (by unfold maxLen; omega) (by omega) hbase
  rw [← tokCells_one, ← tokCells_append] at ho
  have ho2 : w'.ownsRow base tK 3 v' (l ++ [x]).length (tokCells (l ++ [x])) := by rw [List.length_append]; exact ho
  obtain ⟨A, c, rfl, _, _, _⟩ := holdsT_of_own ho2
  rw [List.length_append, List.length_singleton] at hr ho2 hat
  exact ⟨A, c, w', hr, by rw [List.length_append, List.length_singleton]; exact ho2, hgr, hat⟩

theorem lineGo_len : ∀ (k : Nat) (s : ByteArray), (dLineGo k s).length ≤ k
  | 0, _ => Nat.le_refl _
  | k + 1, s => by
    unfold dLineGo
    split
    · exact Nat.zero_le _
    · have := lineGo_len k (s.extract (dFirst s).text.size s.size)
      simp only [List.length_cons]
      omega
theorem dLine_len (s : ByteArray) : (dLine s).length ≤ s.size := lineGo_len _ _

/-- What the loop over the tokens holds. -/
structure LineAt (w : World) (L D : Nat) (r : Loop) (pre : List Tok) (W : World) : Prop where
  low : Below w.heap.size w W
  row : ∃ v, W.heap[w.heap.size]? = some (.cells #[v] 35 (0, 0)) ∧ W.ownsRow w.heap.size tK 3 v pre.length (tokCells pre)
  books : Books L D r W
theorem LineAt.below {w W W' : World} {L D : Nat} {r : Loop} {pre : List Tok} (h : LineAt w L D r pre W) (hb : Below W.heap.size W W') : LineAt w L D r pre W' := by
  obtain ⟨v, h1, h2⟩ := h.row
  exact ⟨h.low.trans (hb.mono h.low.size), ⟨v, (hb.block _ (Array.getElem?_eq_some_iff.1 h1).1).trans h1, own_below h2 hb⟩, ⟨(hb.block _ (Array.getElem?_eq_some_iff.1 h.books.lp).1).trans h.books.lp, (hb.block _ (Array.getElem?_eq_some_iff.1 h.books.calls).1).trans h.books.calls, h.books.ne⟩⟩
theorem LineAt.other {w W W' : World} {L D : Nat} {r : Loop} {pre : List Tok} {q : Nat} (h : LineAt w L D r pre W) (hg : W.grownBy W' (some q)) (h1 : q ≠ w.heap.size) (h2 : q ≠ L) (h3 : q ≠ D) (h4 : w.heap.size ≤ q) (h5 : ∀ v, W.heap[w.heap.size]? = some (.cells #[v] 35 (0, 0)) → W.ownsRow w.heap.size tK 3 v pre.length (tokCells pre) → v.ownBlock ≠ some q) : LineAt w L D r pre W' := by
  obtain ⟨v, k1, k2⟩ := h.row
  have hk : ∀ k o, W.heap[k]? = some o → k ≠ q → W'.heap[k]? = some o := fun k o hk hne => (hg.block k (Array.getElem?_eq_some_iff.1 hk).1 (fun e => hne (by cases e; rfl))).trans hk
  exact ⟨h.low.grown hg h.low.size (fun k e => by cases e; exact h4), ⟨v, hk _ _ k1 (Ne.symm h1), k2.kept hg (Or.inr (h5 v k1 k2))⟩, ⟨hk _ _ h.books.lp (Ne.symm h2), hk _ _ h.books.calls (Ne.symm h3), h.books.ne⟩⟩

set_option maxRecDepth 100000 in
set_option maxHeartbeats 8000000 in
/-- A line's tokens. -/
theorem Line_any (s : ByteArray) (w : World) (hs : s.size ≤ 1000000) (hT : Tabs w) :
    Calls Tryz.prog 38 #[.string s] w fun e w' => ∃ v, e = .returned v ∧ w'.ownsRow w.heap.size tK 3 v (dLine s).length (tokCells (dLine s)) ∧ Below w.heap.size w w' := by
  have hbA := below_new w (.cells #[.slice none 0 0] 35)
  have hXA := heap_alloc_new w (.cells #[.slice none 0 0] 35)
  have hzA : (w.alloc (.cells #[.slice none 0 0] 35)).heap.size = w.heap.size + 1 := by simp
  have hbS := below_new (w.alloc (.cells #[.slice none 0 0] 35)) (.cells #[.string s] 9)
  have hXS := heap_alloc_new (w.alloc (.cells #[.slice none 0 0] 35)) (.cells #[.string s] 9)
  have hzS : ((w.alloc (.cells #[.slice none 0 0] 35)).alloc (.cells #[.string s] 9)).heap.size = w.heap.size + 2 := by simp
  rw [hzA] at hXS hbS
  have hXA2 := (hbS.block w.heap.size (by omega)).trans hXA
  have hL := hbA.trans (hbS.mono (by omega))
  refine calls_of_wp_marks 3 Tryz.func38 rfl ?_
  simp only [Tryz.ntmps38, List.size_toArray, List.length_cons, List.length_nil, Nat.reduceAdd, Nat.reduceSub, Array.replicate_succ, Array.replicate_zero, List.push_toArray, List.append_toArray, List.nil_append, List.cons_append]
  go_wp2_with fail
  refine (tokens_any s _).mono ?_
  rintro e w2 ⟨rfl, rfl⟩
  go_wp2_with fail
  generalize (w.alloc (.cells #[.slice none 0 0] 35)).alloc (.cells #[.string s] 9) = V at *
  obtain ⟨i0, hi0, hy0, hy1, hy2⟩ := info_parts infoTok
  refine wpIn_wide.1 (range_joint (n := 3) (F := Fence.wide) rfl (by omega) (gf := 69) (lb := #[.pointer (some ⟨w.heap.size + 1, 0, none⟩)]) rfl trivial (enters_of Tryz.func69 (by kernel_rfl) rfl) ?_)
  intro fn r W hfn hr hW hBk
  have hVW : Below V.heap.size V W := by rw [hW]; exact ((Below.refl _ V).alloc (Nat.le_refl _) _).alloc (by simp) _
  have hzW : W.heap.size = w.heap.size + 4 := by rw [hW]; simp; omega
  rw [hzS] at hBk hVW ⊢
  have hwW : Below w.heap.size w W := hL.trans (hVW.mono (by omega))
  have hF0 : LineAt w (w.heap.size + 2 + 1) (w.heap.size + 2) r [] W := ⟨hwW, ⟨_, (hVW.block _ (by omega)).trans hXA2, World.ownsRow_nil _ _ _ _⟩, hBk⟩
  have hSW := (hVW.block (w.heap.size + 1) (by omega)).trans hXS
  refine callsIn_wide.2 ((tokens1_any 2 (w.heap.size + 2 + 1) (w.heap.size + 1) s (fun pre W' => LineAt w (w.heap.size + 2 + 1) (w.heap.size + 2) r pre W' ∧ ∃ y, W'.heap[w.heap.size + 1]? = some (.cells #[y] 9 (0, 0))) W hs hSW ⟨hF0, _, hSW⟩ ?hStays ?hStore ?hTabs ?hRounds).mono ?_)
  case hStays =>
    rintro pre W1 W2 ⟨h1, y, h2⟩ hb
    exact ⟨h1.below hb, y, (hb.block _ (Array.getElem?_eq_some_iff.1 h2).1).trans h2⟩
  case hStore =>
    rintro pre W1 v ⟨h1, y, h2⟩
    refine ⟨h1.other (grown_setCell W1 ⟨w.heap.size + 1, 0, none⟩ v) (by show w.heap.size + 1 ≠ _; omega) (by show w.heap.size + 1 ≠ _; omega) (by show w.heap.size + 1 ≠ _; omega) (by show w.heap.size ≤ w.heap.size + 1; omega) (fun u _ ho => own_apart_cells ho h2 (by decide)), v, ?_⟩
    rw [heap_setCell_same W1 (w.heap.size + 1) 0 _ _ v h2]
    simp
  case hTabs =>
    rintro pre W1 ⟨h1, _⟩
    exact hT.below h1.low
  case hRounds =>
    rintro pre x W0 W5 ⟨h0, y0, hy⟩ hlen hz0 hb05
    have hF5 := h0.below hb05
    have hS5 := (hb05.block _ (Array.getElem?_eq_some_iff.1 hy).1).trans hy
    have hpl : pre.length ≤ 1000000 := by have := dLine_len s; omega
    have r1 : r.state = .ready := by rw [hr]
    have r2 : r.pending = none := by rw [hr]
    have r3 : r.params.size = 1 := by rw [hr]; rfl
    rw [hzW] at hz0
    have hXa := heap_alloc_new W5 (.cells #[.int .i64 x.kind, .string x.text, .string x.glyph] tK)
    have hBa := below_new W5 (.cells #[.int .i64 x.kind, .string x.text, .string x.glyph] tK)
    have hKa : KeepsOthers W5 (W5.alloc (.cells #[.int .i64 x.kind, .string x.text, .string x.glyph] tK)) := KeepsOthers.alloc _ _
    have hza : (W5.alloc (.cells #[.int .i64 x.kind, .string x.text, .string x.glyph] tK)).heap.size = W5.heap.size + 1 := by simp
    have hFa := hF5.below hBa
    have hz5 := hb05.size
    obtain ⟨W6, hW6⟩ : ∃ W6, (W5.alloc (.cells #[.int .i64 x.kind, .string x.text, .string x.glyph] tK)).putObj (w.heap.size + 2 + 1) (.loop { r with state := .busy }) = W6 := ⟨_, rfl⟩
    have ho6 : ∀ j, j ≠ w.heap.size + 2 + 1 → W6.heap[j]? = (W5.alloc (.cells #[.int .i64 x.kind, .string x.text, .string x.glyph] tK)).heap[j]? := fun j hj => by rw [← hW6]; exact World.putObj_heap_other hj
    have hX6 := (ho6 W5.heap.size (by omega)).trans hXa
    have hz6 : W6.heap.size = W5.heap.size + 1 := by rw [← hW6]; simp [World.putObj]
    obtain ⟨v, hv5, hown5⟩ := hFa.row
    have hv6 := (ho6 w.heap.size (by omega)).trans hv5
    have hown6 : W6.ownsRow w.heap.size tK 3 v pre.length (tokCells pre) := by rw [← hW6]; exact ownsRow_putObj hown5 _ hFa.books.lp rfl
    have hS6 := (ho6 (w.heap.size + 1) (by omega)).trans ((hBa.block _ (Array.getElem?_eq_some_iff.1 hS5).1).trans hS5)
    have hb56 : Below w.heap.size W5 W6 := by rw [← hW6]; exact (hBa.mono (by omega)).trans ⟨rfl, rfl, rfl, by simp [World.putObj], fun k hk => World.putObj_heap_other (show k ≠ w.heap.size + 2 + 1 by omega)⟩
    have hown0 : ∀ k, v.ownBlock = some k → k < W0.heap.size := by
      intro k hk
      obtain ⟨v0, hv0, ho0⟩ := h0.row
      have e1 := (hBa.block w.heap.size (by omega)).trans ((hb05.block w.heap.size (by omega)).trans hv0)
      rw [hv5] at e1
      simp only [Option.some.injEq, Obj.cells.injEq, Array.mk.injEq, List.cons.injEq] at e1
      obtain rfl := e1.1.1
      exact (ho0.lt k hk).2
    refine (round_joint (F := Fence.wide) (n := 2) (args := #[.agg #[.int .i64 x.kind, .string x.text, .string x.glyph]])
      (Post := fun W3 => (∃ v3, W3.heap[w.heap.size]? = some (.cells #[v3] 35 (0, 0)) ∧ W3.ownsRow w.heap.size tK 3 v3 (pre ++ [x]).length (tokCells (pre ++ [x]))) ∧ Below w.heap.size W6 W3 ∧ (∀ k, k ≠ w.heap.size → v.ownBlock ≠ some k → k < W6.heap.size → W3.heap[k]? = W6.heap[k]?)) trivial hF5.books r1 r2 (by rw [r3]; rfl) ?_).mono ?_
    · have HW6 := Lib.hid hW6
      have c0 : W6.cell? ⟨w.heap.size, 0, none⟩ = some v := by simp [World.cell?, hv6]
      have z0 : W6.frozen? ⟨w.heap.size, 0, none⟩ = false := frozen_of_row W6 _ 0 _ _ hv6
      obtain ⟨x0, x1, x2, _⟩ := tok_cells hX6
      have lv6 : w.heap.size < W6.heap.size := by omega
      obtain ⟨A5, c5, rfl, _, _, _⟩ := holdsT_of_own hown6
      obtain ⟨A9, c9, w9, hrun, hN9, hgr9, hat9⟩ := push_tok (x := x) (g := W6.heap.size) (W := W6.alloc (.cells #[.int .i64 x.kind, .string x.text, .string x.glyph] tK)) (heap_alloc_new W6 _) (hown6.alloc _) hpl (by simp; omega)
      have hbB6 := below_new W6 (.cells #[.int .i64 x.kind, .string x.text, .string x.glyph] tK)
      have hne6 : (Value.slice A5 pre.length c5).ownBlock ≠ some w.heap.size := fun e => own_apart_cells hown6 hv6 (by decide) e
      have hv9 : w9.heap[w.heap.size]? = some (.cells #[.slice A5 pre.length c5] 35 (0, 0)) := (hgr9.block w.heap.size (by simp; omega) (fun e => hne6 e.symm)).trans ((hbB6.block _ lv6).trans hv6)
      have c9' : w9.cell? ⟨w.heap.size, 0, none⟩ = some (.slice A5 pre.length c5) := by simp [World.cell?, hv9]
      have z9' : w9.frozen? ⟨w.heap.size, 0, none⟩ = false := frozen_of_row w9 _ 0 _ _ hv9
      have HV9 := Lib.hid hv9
      have HN9 := Lib.hid hN9
      have HG9 := Lib.hid hgr9
      have HB6 := Lib.hid hbB6
      clear hv9 hN9 hgr9 hat9 hbB6
      have HZ6 := Lib.hid hz6
      have HO6 := Lib.hid hown6
      clear hz6 ho6 hX6 hv6 hS6 hown6 hown0
      clear hW6 hFa hXa hBa hF5 hF0 h0 hSW hwW hVW hW hBk hXA2 hXS hXA hbA hbS hL r1 r2 r3 hown5 hv5 hy hS5 hb05 hza
      subst hr
      gi_wp2_with fail
      refine ⟨hKa, ?_⟩
      rw [HW6.out]
      clear hKa HW6
      gi_wp2_with (gi_at_builtin; go_must (refine wpListIn_append_run rfl _ _ 35 35 rfl rfl rfl hrun ?_))
      have hv10 : (w9.setCell ⟨w.heap.size, 0, none⟩ (.slice A9 (pre.length + 1) c9)).heap[w.heap.size]? = some (.cells #[.slice A9 (pre.length + 1) c9] 35 (0, 0)) := by
        rw [heap_setCell_same w9 w.heap.size 0 _ _ _ HV9.out]
        simp
      refine ⟨((KeepsOthers.alloc W6 _).trans (KeepsOthers.of_grownBy HG9.out (fun j o ej hj => ?_))).trans (KeepsOthers.setCell _ _ _), ⟨_, hv10, ?_⟩, ?_, fun k hk1 hk2 hk3 => ?_⟩
      · rcases HO6.out.2 with ⟨e, _⟩ | ⟨g, cap, cur, e, _, hgb, _⟩
        · rw [e] at ej; simp [Value.ownBlock] at ej
        · rw [e] at ej
          obtain rfl : g = j := by simpa [Value.ownBlock] using ej
          have := (HB6.out.block g (Array.getElem?_eq_some_iff.1 hgb).1).trans hgb
          rw [this] at hj
          cases hj
          rfl
      · have hn := HN9.out
        rw [List.length_append, List.length_singleton] at hn
        exact hn.kept (grown_setCell w9 ⟨w.heap.size, 0, none⟩ _) (Or.inr (fun e => own_apart_cells hn HV9.out (by decide) e))
      · exact (((HB6.out.mono (by omega)).grown HG9.out (by simp; omega) (fun k e => ownBlock_ge HO6.out k e))).setCell (p := ⟨w.heap.size, 0, none⟩) (Nat.le_refl _) _
      · exact (heap_setCell_other _ _ _ _ hk1).trans ((HG9.out.block k (by simp; omega) (fun e => hk2 e.symm)).trans (HB6.out.block k hk3))
    · rintro e W' ⟨rfl, hB', W3, hB3, rfl, ⟨v3, hv3, hown3⟩, hb3, hk3⟩
      have hoP : ∀ j, j ≠ w.heap.size + 2 + 1 → (W3.putObj (w.heap.size + 2 + 1) (.loop r)).heap[j]? = W3.heap[j]? := fun j hj => World.putObj_heap_other hj
      have hbP : Below w.heap.size W3 (W3.putObj (w.heap.size + 2 + 1) (.loop r)) := ⟨rfl, rfl, rfl, by simp [World.putObj], fun k hk => hoP k (by omega)⟩
      have hvS : v.ownBlock ≠ some (w.heap.size + 1) := fun e => own_apart_cells hown6 hS6 (by decide) e
      have hS3 := (hk3 (w.heap.size + 1) (by omega) hvS (by omega)).trans hS6
      have hlo5 := hF5.low.size
      refine ⟨rfl, ⟨⟨((hF5.low.trans hb56).trans hb3).trans hbP, ⟨v3, (hoP _ (by omega)).trans hv3, ownsRow_putObj hown3 _ hB3.lp rfl⟩, hB'⟩, _, (hoP _ (by omega)).trans hS3⟩, ?_, ?_, fun k hk1 hk2 => ?_⟩
      · exact (hoP _ (by omega)).trans (hS3.trans hS5.symm)
      · have := hb3.size
        simp [World.putObj]
        omega
      · exact (hoP k (by omega)).trans ((hk3 k (by omega) (fun e => by have := hown0 k e; omega) (by omega)).trans ((ho6 k (by omega)).trans (hBa.block k hk2)))
  · rintro e W' ⟨hv, hF, _⟩
    refine ⟨hv, hF.books, ?_⟩
    have hput : ∀ j, j ≠ w.heap.size + 2 + 1 → (W'.putObj (w.heap.size + 2 + 1) (.loop { r with state := .exhausted })).heap[j]? = W'.heap[j]? := fun j hj => World.putObj_heap_other hj
    have hbP : Below w.heap.size W' (W'.putObj (w.heap.size + 2 + 1) (.loop { r with state := .exhausted })) := ⟨rfl, rfl, rfl, by simp [World.putObj], fun k hk => hput k (by omega)⟩
    obtain ⟨v, hv', hown⟩ := hF.row
    have hD8 := (hput (w.heap.size + 2) (by omega)).trans hF.books.calls
    have hv8 := (hput w.heap.size (by omega)).trans hv'
    have HO8 := Lib.hid (ownsRow_putObj hown (.loop { r with state := .exhausted }) hF.books.lp rfl)
    have HB8 := Lib.hid (hF.low.trans hbP)
    generalize W'.putObj (w.heap.size + 2 + 1) (.loop { r with state := .exhausted }) = W8 at *
    have c8 : W8.cell? ⟨w.heap.size, 0, none⟩ = some v := by simp [World.cell?, hv8]
    clear hput hbP hown hF hv' hv8 hv hF0 hwW hVW hr hBk hW hSW
    go_wp2_with fail
    refine ⟨by simp, .inl ⟨_, _, rfl, run_takeDeferred hD8, ?_⟩⟩
    refine ⟨_, results_tmp rfl _ _ _, _, rfl, ?_, ?_⟩
    · exact ownsRow_putObj HO8.out _ hD8 rfl
    · exact HB8.out.trans ⟨rfl, rfl, rfl, by simp [World.putObj], fun k hk => World.putObj_heap_other (show k ≠ w.heap.size + 2 by omega)⟩
end Go.Proofs.YtflpihedhccdfaaGreatDoor
/-
  A slice of tokens appended to a row of tokens of one's own.
-/
namespace Go.Proofs.YtflpihedhccdfaaGreatDoor
open Go Go.RowKit

theorem tokCells_one' (l : List Tok) : ∀ u ∈ tokCells l, u.oneCell' = true := by
  intro u hu
  simp only [tokCells, List.mem_flatMap, Tok.cells] at hu
  obtain ⟨x, _, hx⟩ := hu
  simp at hx
  rcases hx with rfl | rfl | rfl <;> rfl
theorem holdsT_cells {w : World} {b off : Nat} {l : List Tok} (h : HoldsT w (some ⟨b, off, none⟩) l) (j : Nat) (u : Value) (hj : (tokCells l)[j]? = some u) : w.cell? ((⟨b, off, none⟩ : Addr).add j) = some u := by
  have hlt : j < l.length * 3 := by rw [← tokCells_length]; exact (List.getElem?_eq_some_iff.1 hj).1
  have hk : j / 3 < l.length := by omega
  obtain ⟨b', off', e, c1, c2, c3⟩ := h (j / 3) _ (List.getElem?_eq_getElem hk)
  cases e
  obtain ⟨t1, t2, t3⟩ := tokCells_get l (j / 3) _ (List.getElem?_eq_getElem hk)
  rw [Addr.add_lit]
  have h3 : j = j / 3 * 3 ∨ j = j / 3 * 3 + 1 ∨ j = j / 3 * 3 + 2 := by omega
  rcases h3 with e | e | e
  · rw [e] at hj ⊢
    rw [t1] at hj
    cases hj
    exact c1
  · rw [e] at hj ⊢
    rw [t2] at hj
    cases hj
    exact c2
  · rw [e] at hj ⊢
    rw [t3] at hj
    cases hj
    exact c3
theorem run_append_toks (base : Nat) (w : World) (i : TypeInfo) (z : Value) (hi : Tryz.prog.info? 55 = some i) (hz : i.zero = some z) (hsize : i.size = 3) (hby : i.bytes = 40) (hzs : z.cells.size = 3)
    (v : Value) (n : Nat) (xs : List Value) (hown : w.ownsRow base 55 3 v n xs) (B : Option Addr) (d : Nat) (m : List Tok) (hm : HoldsT w B m) (h1 : n ≤ 10000) (h2 : m.length ≤ 10000) (hbase : base ≤ w.heap.size) :
    ∃ v' w', (Builtin.append_ #[35, 35] 35 #[v, .slice B m.length d]).run Tryz.prog w = .ok v' w' ∧ w'.ownsRow base 55 3 v' (n + m.length) (xs ++ tokCells m) ∧ w.grownBy w' v.ownBlock := by
  cases B with
  | none =>
    have hn : m = [] := by
      cases m with
      | nil => rfl
      | cons x m =>
        obtain ⟨b, off, e, _⟩ := hm 0 x rfl
        cases e
    subst hn
    have ht := Tryz.underlying35
    have h : (Builtin.append_ #[35, 35] 35 #[v, .slice none 0 d]).run Tryz.prog w = .ok v w := by
      rcases hown.2 with ⟨rfl, rfl⟩ | ⟨g, cap, cur, rfl, _, _, hnc, _⟩
      · simp [Builtin.append_, run_underlying ht, sizeOf, typeInfo, hi, Builtin.lenOf, Builtin.firstCells, loadCells, loadCellsFrom]
      · simp [Builtin.append_, run_underlying ht, sizeOf, typeInfo, hi, Builtin.lenOf, Builtin.firstCells, hnc, storeCells, loadCells, loadCellsFrom]
    exact ⟨v, w, h, by simpa [tokCells] using hown, ⟨rfl, rfl, rfl, Nat.le_refl _, fun _ _ _ => rfl⟩⟩
  | some ad =>
    have hnews : ∀ j u, (tokCells m)[j]? = some u → w.cell? (ad.add j) = some u := fun j u hj => by
      have hlt : 0 < m.length := by
        have := (List.getElem?_eq_some_iff.1 hj).1
        rw [tokCells_length] at this
        omega
      obtain ⟨b, off, e, _⟩ := hm 0 _ (List.getElem?_eq_getElem hlt)
      cases e
      exact holdsT_cells hm j u hj
    obtain ⟨v', w', r1, r2, r3, _⟩ := run_append_own (P := Tryz.prog) w base 35 35 55 i z 3 40 Tryz.underlying35 hi hz hsize hby hzs (by decide) v n xs hown ad m.length d (tokCells m) (tokCells_length m) hnews (tokCells_one' m) (by unfold maxLen; omega) (by omega) hbase
    exact ⟨v', w', r1, r2, r3⟩

theorem wpList_append_toks {ops : Array Oper} {rest : List Oper} {o : Oper} {a : Act} {Q : Exit → Act → World → Prop} {w : World} (hgd : o.guard = none) (s x : Operand)
    (ho : o.op = .call { callee := .builtin .append, args := #[s, x], argTypes := #[35, 35] }) (hot : o.type = 35) (i : TypeInfo) (z : Value) (hi : Tryz.prog.info? 55 = some i) (hz : i.zero = some z) (hsize : i.size = 3) (hby : i.bytes = 40) (hzs : z.cells.size = 3)
    (base : Nat) (v : Value) (n : Nat) (xs : List Value) (hs : a.eval s = v) (hown : w.ownsRow base 55 3 v n xs) (B : Option Addr) (d : Nat) (m : List Tok) (hx : a.eval x = .slice B m.length d) (hm : HoldsT w B m) (h1 : n ≤ 10000) (h2 : m.length ≤ 10000) (hbase : base ≤ w.heap.size)
    (h : ∀ v' w', w'.ownsRow base 55 3 v' (n + m.length) (xs ++ tokCells m) → w.grownBy w' v.ownBlock → wpList Tryz.prog ops Q rest (a.put o.dst v') w') : wpList Tryz.prog ops Q (o :: rest) a w := by
  refine wpList_plain hgd fun K hK => ?_
  obtain ⟨v', w', hr, h3, h4⟩ := run_append_toks base w i z hi hz hsize hby hzs v n xs hown B d m hm h1 h2 hbase
  unfold Oper.wp execOp
  simp only [ho, hot, resolve, invoke, builtin, Sem.run_bind, Sem.run_pure, Result.andThen_ok, List.map_toArray, List.map_cons, List.map_nil, hs, hx, hr]
  exact hK _ _ (h v' w' h3 h4)
end Go.Proofs.YtflpihedhccdfaaGreatDoor
/-
  A strings.Builder written to: a byte, a text. Shape: the shelf's walks of them, turned to this program.
-/
namespace Go.Proofs.YtflpihedhccdfaaGreatDoor
open Go.RowKit Go.Shelf

abbrev tB : TypeId := 115
abbrev tU : TypeId := 5
theorem sizeBu : (Tryz.prog.info? 115).map (·.size) = some 2 := Lay_Builder_Extra_169.sizeBuilder
theorem infoBy : (Tryz.prog.info? 5).map (fun i => (i.zero, i.size, i.bytes)) = some (some (.int .u8 0), 1, 1) := by kernel_rfl

set_option maxRecDepth 100000 in
set_option maxHeartbeats 1000000 in
theorem copyCheck_fresh (b : Nat) (w : World) (h0 : w.cell? ⟨b, 0, none⟩ = some (.pointer none)) (hsh : w.shape? b = some (tB, 2)) (hfz : w.frozen? ⟨b, 0, none⟩ = false) :
    Calls Tryz.prog 75 #[.pointer (some ⟨b, 0, none⟩)] w fun e w' => e = .returned (.tuple #[]) ∧ w' = w.setCell ⟨b, 0, none⟩ (.pointer (some ⟨b, 0, none⟩)) := by
  obtain ⟨j, hj, hjs⟩ := Option.map_eq_some_iff.1 sizeBu
  have h1 := Lib.run_to_unsafe (P := Tryz.prog) w ⟨b, 0, none⟩ Tryz.underlying112 Tryz.underlying146 hj (by rw [hjs]; decide) hsh (Nat.zero_lt_succ 1)
  have h2 := Lib.run_from_unsafe (P := Tryz.prog) w ⟨b, 0, none⟩ Tryz.underlying146 Tryz.underlying112 hj hsh Lay_Builder_Extra_169.liesBuilder
  go_enter Tryz.func75, Tryz.ntmps75
  go_wp2
  rw [run_callFunc_extern Tryz.func91 (by kernel_rfl) (by kernel_rfl) (by kernel_rfl) (e := Extern.AbiNoEscape.same) (by kernel_rfl)]
  rw [Lib.run_noEscape]
  simp only [Result.andThen]
  rw [Oper.upon_value]
  go_wp2
  go_end0
  exact ⟨rfl, rfl⟩
set_option maxRecDepth 100000 in
set_option maxHeartbeats 1000000 in
theorem copyCheck_used (b : Nat) (w : World) (h0 : w.cell? ⟨b, 0, none⟩ = some (.pointer (some ⟨b, 0, none⟩))) :
    Calls Tryz.prog 75 #[.pointer (some ⟨b, 0, none⟩)] w fun e w' => e = .returned (.tuple #[]) ∧ w' = w := by
  obtain ⟨j, hj, _⟩ := Option.map_eq_some_iff.1 sizeBu
  go_enter Tryz.func75, Tryz.ntmps75
  go_wp2
  rw [Lib.run_neq_ptr_same w _ Tryz.underlying112 hj]
  go_wp2
  go_end0
  exact ⟨rfl, rfl⟩
/-- A row of bytes that a conversion has made: marked behind its end. -/
def Marked (w : World) (k : Nat) (cs : Array Value) : Prop := w.heap[k]? = some (.cells cs tU (cs.size, cs.size + 1))
theorem marked_free {w : World} {k : Nat} {cs : Array Value} {B : Nat} {v : Value} {n : Nat} {xs : List Value} (hk : Marked w k cs) (h : w.ownsRowF B tU 1 v n xs) : v.ownBlock ≠ some k := by
  intro hv
  rcases h.2 with ⟨rfl, _⟩ | ⟨g, cap, cur, fz, rfl, _, hg, hfz, hnc, hcm, hcs, _⟩
  · simp [Value.ownBlock] at hv
  · simp [Value.ownBlock] at hv
    subst hv
    unfold Marked at hk
    rw [hk] at hg
    cases hg
    simp at hfz
    omega
theorem copyCheck_any (B b : Nat) (bs : List Value) (w : World) (h : Lib.IsBuilderF tB tU B b bs w) :
    Calls Tryz.prog 75 #[.pointer (some ⟨b, 0, none⟩)] w fun e w' => e = .returned (.tuple #[]) ∧ Lib.BuilderAtF tB tU B b (.pointer (some ⟨b, 0, none⟩)) bs w' ∧ Below B w w' ∧ ∀ k cs, Marked w k cs → Marked w' k cs := by
  have hne : ∀ k cs, Marked w k cs → k ≠ b := fun k cs hk e => by
    have hb : ∃ cs' : Array Value, w.heap[b]? = some (.cells cs' tB (0, 0)) := by
      rcases h with ⟨_, v, h, _⟩ | ⟨_, v, h, _⟩ <;> exact ⟨_, h⟩
    obtain ⟨cs', h1⟩ := hb
    subst e
    unfold Marked at hk
    rw [hk] at h1
    simp only [Option.some.injEq, Obj.cells.injEq] at h1
    exact absurd h1.2.1 (by decide)
  rcases h with h | h
  · refine (copyCheck_fresh b w h.cell0 h.shape h.frozen0).mono ?_
    rintro e w' ⟨rfl, rfl⟩
    exact ⟨rfl, h.used _, (Below.refl B w).setCell (p := ⟨b, 0, none⟩) h.1 _, fun k cs hk => (Below.heap_setCell w ⟨b, 0, none⟩ _ k (hne k cs hk)).trans hk⟩
  · refine (copyCheck_used b w h.cell0).mono ?_
    rintro e w' ⟨rfl, rfl⟩
    exact ⟨rfl, h, Below.refl B _, fun k cs hk => hk⟩

set_option maxHeartbeats 2000000 in
set_option maxRecDepth 100000 in
theorem writeString_any (B b : Nat) (bs : List Value) (s : ByteArray) (w : World) (h : Lib.IsBuilderF tB tU B b bs w) (hlen : bs.length + s.size ≤ 140737488355328) (hBw : B ≤ w.heap.size) :
    Calls Tryz.prog 62 #[.pointer (some ⟨b, 0, none⟩), .string s] w fun e w' => e = .returned (.tuple #[.int .i64 s.size, .nilIface]) ∧ Lib.BuilderAtF tB tU B b (.pointer (some ⟨b, 0, none⟩)) (bs ++ Lib.strCells s) w' ∧ Below B w w' ∧ ∀ k cs, Marked w k cs → Marked w' k cs := by
  obtain ⟨i0, hi, hz0, hz1, hz2⟩ := info_parts infoBy
  go_enter Tryz.func62, Tryz.ntmps62
  go_wp2_with fail
  refine (copyCheck_any B b bs _ h).mono ?_
  rintro e w1 ⟨rfl, h1, hb1, hm1⟩
  obtain ⟨hB, v, hbk, hown, hne⟩ := h1
  have c0 : w1.cell? ⟨b, 0, none⟩ = some (.pointer (some ⟨b, 0, none⟩)) := by rw [Lib.cell_of_heap hbk]; rfl
  have c1 : w1.cell? ⟨b, 1, none⟩ = some v := by rw [Lib.cell_of_heap hbk]; rfl
  go_wp2_with (at_builtin; refine Lib.wpList_append_own_stringF _ rfl _ _ 113 9 rfl B tU i0 Tryz.underlying113 Tryz.underlying9 hi hz0 hz1 hz2 _ _ _ rfl hown s rfl ?c3 ?c4 ?c5 ?_)
  case c3 => unfold maxLen; omega
  case c4 => omega
  case c5 => have := hb1.size; omega
  intro v' w2 hown' hgrow _
  have hlt : b < w1.heap.size := by
    rcases Nat.lt_or_ge b w1.heap.size with h' | h'
    · exact h'
    · simp [Array.getElem?_eq_none h'] at hbk
  have hb2 : w2.heap[b]? = some (.cells #[.pointer (some ⟨b, 0, none⟩), v] tB (0, 0)) := by
    rw [hgrow.block b hlt (fun e => hne e.symm)]
    exact hbk
  have hnb : ∀ k cs, Marked w1 k cs → k ≠ b := fun k cs hk e => by
    subst e
    unfold Marked at hk
    rw [hk] at hbk
    simp only [Option.some.injEq, Obj.cells.injEq] at hbk
    exact absurd hbk.2.1 (by decide)
  have HM : Hid (∀ k cs, Marked w k cs → ∀ u, Marked (w2.setCell ⟨b, 1, none⟩ u) k cs) := Lib.hid (fun k cs hk u => (Below.heap_setCell w2 ⟨b, 1, none⟩ u k (hnb k cs (hm1 k cs hk))).trans ((hgrow.block k (Array.getElem?_eq_some_iff.1 (hm1 k cs hk)).1 (fun e => marked_free (hm1 k cs hk) hown e.symm)).trans (hm1 k cs hk)))
  clear hm1 hnb
  have d0 : w2.cell? ⟨b, 0, none⟩ = some (.pointer (some ⟨b, 0, none⟩)) := by rw [Lib.cell_of_heap hb2]; rfl
  have d1 : w2.cell? ⟨b, 1, none⟩ = some v := by rw [Lib.cell_of_heap hb2]; rfl
  have f1 : w2.frozen? ⟨b, 1, none⟩ = false := Lib.frozen_of_heap hb2 1
  obtain ⟨ao, n', cap, rfl⟩ : ∃ ao n' cap, v' = .slice ao n' cap := by
    rcases hown'.2 with ⟨hv, _⟩ | ⟨g, cap, cur, fz, hv, _⟩
    · exact ⟨_, _, _, hv⟩
    · exact ⟨_, _, _, hv⟩
  go_wp2
  go_ret2
  refine ⟨rfl, ?_, ?_, fun k cs hk => HM.out k cs hk _⟩
  · exact Lib.BuilderAtF.put (T := tB) (e := tU) hB hb2 (bs' := bs ++ Lib.strCells s) (by simpa [Lib.strCells_length] using hown') (by decide)
  · exact (hb1.grown hgrow (by have := hb1.size; omega) (fun k hk => (hown.lt k hk).1)).setCell (p := ⟨b, 1, none⟩) hB _
end Go.Proofs.YtflpihedhccdfaaGreatDoor
/-
  The walks of 'Same', of both.
-/
namespace Go.Proofs.YtflpihedhccdfaaGreatDoor
open Go.RowKit Go.Maps

theorem toks_eq {a b : List Tok} (hl : a.length = b.length) (h : ∀ k : Nat, k < a.length → a[k]? = b[k]?) : a = b := by
  refine List.ext_getElem? fun k => ?_
  by_cases hk : k < a.length
  · exact h k hk
  · rw [List.getElem?_eq_none (by omega), List.getElem?_eq_none (by omega)]
/-- How two tokens compare, part by part. -/
theorem tok_ways (x y : Tok) : x = y ∨ (x ≠ y ∧ (x.kind == y.kind) = false) ∨ (x ≠ y ∧ (x.kind == y.kind) = true ∧ (x.text.toList == y.text.toList) = false) ∨ (x ≠ y ∧ (x.kind == y.kind) = true ∧ (x.text.toList == y.text.toList) = true ∧ (x.glyph.toList == y.glyph.toList) = false) := by
  by_cases h : x = y
  · exact .inl h
  · by_cases h1 : x.kind = y.kind
    · by_cases h2 : x.text = y.text
      · refine .inr (.inr (.inr ⟨h, by simpa using h1, bytes_beq_yes h2, bytes_beq_no (fun h3 => h ?_)⟩))
        obtain ⟨a, b, c⟩ := x
        obtain ⟨a', b', c'⟩ := y
        simp only at h1 h2 h3
        subst h1 h2 h3
        rfl
      · exact .inr (.inr (.inl ⟨h, by simpa using h1, bytes_beq_no h2⟩))
    · exact .inr (.inl ⟨h, by simpa using h1⟩)

set_option maxRecDepth 100000 in
set_option maxHeartbeats 8000000 in
theorem refSame_any (a b : List Tok) (A C : Option Addr) (c d : Nat) (w : World) (ha : a.length ≤ 1000000) (hb : b.length ≤ 1000000) (hA : HoldsT w A a) (hC : HoldsT w C b) :
    Calls Tryz.prog 16 #[.slice A a.length c, .slice C b.length d] w fun e w' => e = .returned (.bool (decide (a = b))) ∧ Below w.heap.size w w' := by
  have HA := Lib.hid hA
  have HC := Lib.hid hC
  clear hA hC
  by_cases hl : a.length = b.length
  · have ql : ((a.length : Int) == (b.length : Int)) = true := by rw [hl]; simp
    have ql2 : ((a.length : Int) != (b.length : Int)) = false := by rw [bne, ql]; rfl
    have HL := Lib.hid hl
    have hl2 : b.length ≤ a.length := by omega
    have hl3 : a.length ≤ b.length := by omega
    clear hl
    go_enter Tryz.func16, Tryz.ntmps16
    go_wp2_with fail
    go_loopw [5] (fun i wr => ∃ (k : Nat), i = .int .i64 k ∧ k ≤ a.length ∧ Hid (∀ j : Nat, j < k → a[j]? = b[j]?) ∧ Hid (Below w.heap.size w wr)) (fun i _ => a.length - (intOf i).toNat)
    case atStart => exact ⟨0, rfl, Nat.zero_le _, Lib.hid (fun j hj => by omega), Lib.hid (Below.refl _ _)⟩
    case round =>
      obtain ⟨k, rfl, hk, HP, HB⟩ := hrel
      by_cases hlt : k < a.length
      · have ga := List.getElem?_eq_getElem (l := a) (i := k) hlt
        have gb := List.getElem?_eq_getElem (l := b) (i := k) (by omega)
        generalize a[k]'hlt = x at *
        generalize b[k]'(by omega) = y at *
        obtain ⟨b1, off1, rfl, d0, d1, d2⟩ := (HA.out.below HB.out) k x ga
        obtain ⟨b2, off2, rfl, f0, f1, f2⟩ := (HC.out.below HB.out) k y gb
        have hsz := HB.out.size
        have l1 := cell_lt d0
        have l2 := cell_lt f0
        have i0 : (0 : Int) ≤ (k : Int) := by omega
        have i1 : (k : Int) < (a.length : Int) := by omega
        have i2 : (k : Int) < (b.length : Int) := by omega
        have hlt2 : k < b.length := by omega
        simp only at l1 l2
        have HPN : Hid (x = y → ∀ j : Nat, j < k + 1 → a[j]? = b[j]?) := Lib.hid (fun e j hj => by
          by_cases hjk : j = k
          · subst hjk; rw [ga, gb, e]
          · exact HP.out j (by omega))
        have HNE : Hid (x ≠ y → a ≠ b) := Lib.hid (fun hne e => hne (by rw [e, gb] at ga; exact (Option.some.inj ga).symm))
        clear ga gb
        rcases tok_ways x y with rfl | ⟨hne, q0⟩ | ⟨hne, q0, q1⟩ | ⟨hne, q0, q1, q2⟩
        · have HP2 := Lib.hid (HPN.out rfl)
          clear HPN HNE
          have q0 : (x.kind == x.kind) = true := by simp
          have q1 := bytes_beq_yes (rfl : x.text = x.text)
          have q2 := bytes_beq_yes (rfl : x.glyph = x.glyph)
          go_wp2_with fail
          go_quiet (fail)
          go_wp2_with fail
          go_roundw
          case rel => exact ⟨k + 1, by go_num, by omega, HP2, Lib.hid (below_drewN HB.out _)⟩
          case measure => simp [intOf]; omega
        all_goals
          have HE : Hid (decide (a = b) = false) := Lib.hid (by simpa using HNE.out hne)
          clear HPN HNE hne
          go_wp2_with fail
          go_quiet (fail)
          go_wp2_with fail
          go_ret
          exact ⟨by rw [HE.out]; rfl, below_drewN HB.out _⟩
      · obtain rfl : k = a.length := by omega
        have HE : Hid (decide (a = b) = true) := Lib.hid (by simpa using toks_eq HL.out HP.out)
        go_wp2_with fail
        go_ret
        exact ⟨by rw [HE.out]; rfl, HB.out⟩
  · have ql : ((a.length : Int) == (b.length : Int)) = false := by simp; omega
    have ql2 : ((a.length : Int) != (b.length : Int)) = true := by rw [bne, ql]; rfl
    have HE : Hid (decide (a = b) = false) := Lib.hid (by simpa using fun e => hl (by rw [e]))
    clear hl
    go_enter Tryz.func16, Tryz.ntmps16
    go_wp2_with fail
    go_ret
    exact ⟨by rw [HE.out]; rfl, Below.refl _ _⟩
end Go.Proofs.YtflpihedhccdfaaGreatDoor
