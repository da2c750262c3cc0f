/-
  A line's tokens: by the program.
-/
import Derived.Test.YteojnejomgomjaaDoorProg
import Derived.Test.YteojnejomgomjaaDoorReg
import Derived.WalkKit
import Derived.WalkSpells
import Derived.WalkLawsBesides
import Derived.Lib.Hide
import Derived.Lib.MinMax
import Derived.Deep.QuietTactic
import Derived.BigQuiet
import Derived.OwnWalk
import Derived.Deep.AppendLies
import Derived.KernelRfl
import Derived.Laws.OwnMore
import Derived.Deep.OwnRows
import Derived.Maps.AppendAt
import Derived.Deep.RegionWith
import Derived.Test.YteojnejomgomjaaDoorLxF
import Derived.Test.YteojnejomgomjaaDoorLxTk
set_option linter.unusedSimpArgs false
set_option linter.unusedVariables false
namespace Go.Proofs.YteojnejomgomjaaDoor
open Go.RowKit Go.Maps

attribute [local go_sem] Oper.semAt_some

theorem wpListIn_append_run {F : Fence} {n : Nat} {P : Program} {w w' : World} {ops : Array Oper} {rest : List Oper} {o : Oper} {a : Act} {Q : Exit → Act → World → Prop} {v u v' : Value} (hg : o.guard = none) (s x : Operand) (t t2 : TypeId)
    (hop : o.op = .call { callee := .builtin .append, args := #[s, x], argTypes := #[t, t2] }) (hs : a.eval s = v) (hx : a.eval x = u) (hr : (Builtin.append_ #[t, t2] o.type #[v, u]).run P w = .ok v' w') (h : wpListIn F n P ops Q rest (a.put o.dst v') w') : wpListIn F n P ops Q (o :: rest) a w := by
  refine wpListIn_plain hg fun K hK' => ?_
  unfold Oper.wpIn
  refine ⟨?_, ?_⟩
  · simp [Oper.about, hop, resolve, Target.leads, Sem.run_pure]
  · rw [Oper.semAt_plain F _ _ (by rw [hop]; intro c hc'; cases hc')]
    simp [execOp, hop, resolve, invoke, builtin, hs, hx, hr, Result.andThen]
    exact hK' _ _ h
/-- A token is appended. -/
theorem push_tok {W : World} {base : Nat} {v : Value} {l : List Tok} {x : Tok} {g : Nat} (hg : W.heap[g]? = some (.cells #[.int .i64 x.kind, .string x.text, .string x.glyph] tK (0, 0))) (hown : W.ownsRow base tK 3 v l.length (tokCells l)) (hl : l.length ≤ 1000000) (hbase : base ≤ W.heap.size) :
    ∃ A c w', (Builtin.append_ #[23, 23] 23 #[v, .slice (some ⟨g, 0, none⟩) 1 1]).run Tryd.prog W = .ok (.slice A (l.length + 1) c) w' ∧ w'.ownsRow base tK 3 (.slice A (l.length + 1) c) (l ++ [x]).length (tokCells (l ++ [x])) ∧ W.grownBy w' v.ownBlock ∧ ((Value.slice A (l.length + 1) c).ownBlock = v.ownBlock ∨ (Value.slice A (l.length + 1) c).ownBlock = some W.heap.size) := by
  obtain ⟨i0, hi0, hz0, hz1, hz2⟩ := info_parts infoTok
  obtain ⟨v', w', hr, ho, hgr, _, hat⟩ := run_append_own_at (P := Tryd.prog) W base 23 23 tK i0 _ 3 40 Tryd.underlying23 hi0 hz0 hz1 hz2 rfl (by decide) v l.length (tokCells l) hown ⟨g, 0, none⟩ 1 1 x.cells rfl
    (World.news_of_block (cs := x.cells.toArray) (t := tK) (fr := (0, 0)) hg) (by simp [Tok.cells, Value.oneCell']) (by unfold maxLen; omega) (by omega) hbase
  rw [← tokCells_one, ← tokCells_append] at ho
  have ho2 : w'.ownsRow base tK 3 v' (l ++ [x]).length (tokCells (l ++ [x])) := by rw [List.length_append]; exact ho
  obtain ⟨A, c, rfl, _, _, _⟩ := holdsT_of_own ho2
  rw [List.length_append, List.length_singleton] at hr ho2 hat
  exact ⟨A, c, w', hr, by rw [List.length_append, List.length_singleton]; exact ho2, hgr, hat⟩

theorem lineGo_len : ∀ (k : Nat) (s : ByteArray), (dLineGo k s).length ≤ k
  | 0, _ => Nat.le_refl _
  | k + 1, s => by
    unfold dLineGo
    split
    · exact Nat.zero_le _
    · have := lineGo_len k (s.extract (dFirst s).text.size s.size)
      simp only [List.length_cons]
      omega
theorem dLine_len (s : ByteArray) : (dLine s).length ≤ s.size := lineGo_len _ _

/-- What the loop over the tokens holds. -/
structure LineAt (w : World) (L D : Nat) (r : Loop) (pre : List Tok) (W : World) : Prop where
  low : Below w.heap.size w W
  row : ∃ v, W.heap[w.heap.size]? = some (.cells #[v] 23 (0, 0)) ∧ W.ownsRow w.heap.size tK 3 v pre.length (tokCells pre)
  books : Books L D r W
theorem LineAt.below {w W W' : World} {L D : Nat} {r : Loop} {pre : List Tok} (h : LineAt w L D r pre W) (hb : Below W.heap.size W W') : LineAt w L D r pre W' := by
  obtain ⟨v, h1, h2⟩ := h.row
  exact ⟨h.low.trans (hb.mono h.low.size), ⟨v, (hb.block _ (Array.getElem?_eq_some_iff.1 h1).1).trans h1, own_below h2 hb⟩, ⟨(hb.block _ (Array.getElem?_eq_some_iff.1 h.books.lp).1).trans h.books.lp, (hb.block _ (Array.getElem?_eq_some_iff.1 h.books.calls).1).trans h.books.calls, h.books.ne⟩⟩
theorem LineAt.other {w W W' : World} {L D : Nat} {r : Loop} {pre : List Tok} {q : Nat} (h : LineAt w L D r pre W) (hg : W.grownBy W' (some q)) (h1 : q ≠ w.heap.size) (h2 : q ≠ L) (h3 : q ≠ D) (h4 : w.heap.size ≤ q) (h5 : ∀ v, W.heap[w.heap.size]? = some (.cells #[v] 23 (0, 0)) → W.ownsRow w.heap.size tK 3 v pre.length (tokCells pre) → v.ownBlock ≠ some q) : LineAt w L D r pre W' := by
  obtain ⟨v, k1, k2⟩ := h.row
  have hk : ∀ k o, W.heap[k]? = some o → k ≠ q → W'.heap[k]? = some o := fun k o hk hne => (hg.block k (Array.getElem?_eq_some_iff.1 hk).1 (fun e => hne (by cases e; rfl))).trans hk
  exact ⟨h.low.grown hg h.low.size (fun k e => by cases e; exact h4), ⟨v, hk _ _ k1 (Ne.symm h1), k2.kept hg (Or.inr (h5 v k1 k2))⟩, ⟨hk _ _ h.books.lp (Ne.symm h2), hk _ _ h.books.calls (Ne.symm h3), h.books.ne⟩⟩

set_option maxRecDepth 100000 in
set_option maxHeartbeats 8000000 in
/-- A line's tokens. -/
theorem Line_any (s : ByteArray) (w : World) (hs : s.size ≤ 1000000) (hT : Tabs w) :
    Calls Tryd.prog 10 #[.string s] w fun e w' => ∃ v, e = .returned v ∧ w'.ownsRow w.heap.size tK 3 v (dLine s).length (tokCells (dLine s)) ∧ Below w.heap.size w w' := by
  have hbA := below_new w (.cells #[.slice none 0 0] 23)
  have hXA := heap_alloc_new w (.cells #[.slice none 0 0] 23)
  have hzA : (w.alloc (.cells #[.slice none 0 0] 23)).heap.size = w.heap.size + 1 := by simp
  have hbS := below_new (w.alloc (.cells #[.slice none 0 0] 23)) (.cells #[.string s] 9)
  have hXS := heap_alloc_new (w.alloc (.cells #[.slice none 0 0] 23)) (.cells #[.string s] 9)
  have hzS : ((w.alloc (.cells #[.slice none 0 0] 23)).alloc (.cells #[.string s] 9)).heap.size = w.heap.size + 2 := by simp
  rw [hzA] at hXS hbS
  have hXA2 := (hbS.block w.heap.size (by omega)).trans hXA
  have hL := hbA.trans (hbS.mono (by omega))
  refine calls_of_wp_marks 3 Tryd.func10 rfl ?_
  simp only [Tryd.ntmps10, List.size_toArray, List.length_cons, List.length_nil, Nat.reduceAdd, Nat.reduceSub, Array.replicate_succ, Array.replicate_zero, List.push_toArray, List.append_toArray, List.nil_append, List.cons_append]
  go_wp2_with fail
  refine (tokens_any s _).mono ?_
  rintro e w2 ⟨rfl, rfl⟩
  go_wp2_with fail
  generalize (w.alloc (.cells #[.slice none 0 0] 23)).alloc (.cells #[.string s] 9) = V at *
  obtain ⟨i0, hi0, hy0, hy1, hy2⟩ := info_parts infoTok
  refine wpIn_wide.1 (range_joint (n := 3) (F := Fence.wide) rfl (by omega) (gf := 33) (lb := #[.pointer (some ⟨w.heap.size + 1, 0, none⟩)]) rfl trivial (enters_of Tryd.func33 (by kernel_rfl) rfl) ?_)
  intro fn r W hfn hr hW hBk
  have hVW : Below V.heap.size V W := by rw [hW]; exact ((Below.refl _ V).alloc (Nat.le_refl _) _).alloc (by simp) _
  have hzW : W.heap.size = w.heap.size + 4 := by rw [hW]; simp; omega
  rw [hzS] at hBk hVW ⊢
  have hwW : Below w.heap.size w W := hL.trans (hVW.mono (by omega))
  have hF0 : LineAt w (w.heap.size + 2 + 1) (w.heap.size + 2) r [] W := ⟨hwW, ⟨_, (hVW.block _ (by omega)).trans hXA2, World.ownsRow_nil _ _ _ _⟩, hBk⟩
  have hSW := (hVW.block (w.heap.size + 1) (by omega)).trans hXS
  refine callsIn_wide.2 ((tokens1_any 2 (w.heap.size + 2 + 1) (w.heap.size + 1) s (fun pre W' => LineAt w (w.heap.size + 2 + 1) (w.heap.size + 2) r pre W' ∧ ∃ y, W'.heap[w.heap.size + 1]? = some (.cells #[y] 9 (0, 0))) W hs hSW ⟨hF0, _, hSW⟩ ?hStays ?hStore ?hTabs ?hRounds).mono ?_)
  case hStays =>
    rintro pre W1 W2 ⟨h1, y, h2⟩ hb
    exact ⟨h1.below hb, y, (hb.block _ (Array.getElem?_eq_some_iff.1 h2).1).trans h2⟩
  case hStore =>
    rintro pre W1 v ⟨h1, y, h2⟩
    refine ⟨h1.other (grown_setCell W1 ⟨w.heap.size + 1, 0, none⟩ v) (by show w.heap.size + 1 ≠ _; omega) (by show w.heap.size + 1 ≠ _; omega) (by show w.heap.size + 1 ≠ _; omega) (by show w.heap.size ≤ w.heap.size + 1; omega) (fun u _ ho => own_apart_cells ho h2 (by decide)), v, ?_⟩
    rw [heap_setCell_same W1 (w.heap.size + 1) 0 _ _ v h2]
    simp
  case hTabs =>
    rintro pre W1 ⟨h1, _⟩
    exact hT.below h1.low
  case hRounds =>
    rintro pre x W0 W5 ⟨h0, y0, hy⟩ hlen hz0 hb05
    have hF5 := h0.below hb05
    have hS5 := (hb05.block _ (Array.getElem?_eq_some_iff.1 hy).1).trans hy
    have hpl : pre.length ≤ 1000000 := by have := dLine_len s; omega
    have r1 : r.state = .ready := by rw [hr]
    have r2 : r.pending = none := by rw [hr]
    have r3 : r.params.size = 1 := by rw [hr]; rfl
    rw [hzW] at hz0
    have hXa := heap_alloc_new W5 (.cells #[.int .i64 x.kind, .string x.text, .string x.glyph] tK)
    have hBa := below_new W5 (.cells #[.int .i64 x.kind, .string x.text, .string x.glyph] tK)
    have hKa : KeepsOthers W5 (W5.alloc (.cells #[.int .i64 x.kind, .string x.text, .string x.glyph] tK)) := KeepsOthers.alloc _ _
    have hza : (W5.alloc (.cells #[.int .i64 x.kind, .string x.text, .string x.glyph] tK)).heap.size = W5.heap.size + 1 := by simp
    have hFa := hF5.below hBa
    have hz5 := hb05.size
    obtain ⟨W6, hW6⟩ : ∃ W6, (W5.alloc (.cells #[.int .i64 x.kind, .string x.text, .string x.glyph] tK)).putObj (w.heap.size + 2 + 1) (.loop { r with state := .busy }) = W6 := ⟨_, rfl⟩
    have ho6 : ∀ j, j ≠ w.heap.size + 2 + 1 → W6.heap[j]? = (W5.alloc (.cells #[.int .i64 x.kind, .string x.text, .string x.glyph] tK)).heap[j]? := fun j hj => by rw [← hW6]; exact World.putObj_heap_other hj
    have hX6 := (ho6 W5.heap.size (by omega)).trans hXa
    have hz6 : W6.heap.size = W5.heap.size + 1 := by rw [← hW6]; simp [World.putObj]
    obtain ⟨v, hv5, hown5⟩ := hFa.row
    have hv6 := (ho6 w.heap.size (by omega)).trans hv5
    have hown6 : W6.ownsRow w.heap.size tK 3 v pre.length (tokCells pre) := by rw [← hW6]; exact ownsRow_putObj hown5 _ hFa.books.lp rfl
    have hS6 := (ho6 (w.heap.size + 1) (by omega)).trans ((hBa.block _ (Array.getElem?_eq_some_iff.1 hS5).1).trans hS5)
    have hb56 : Below w.heap.size W5 W6 := by rw [← hW6]; exact (hBa.mono (by omega)).trans ⟨rfl, rfl, rfl, by simp [World.putObj], fun k hk => World.putObj_heap_other (show k ≠ w.heap.size + 2 + 1 by omega)⟩
    have hown0 : ∀ k, v.ownBlock = some k → k < W0.heap.size := by
      intro k hk
      obtain ⟨v0, hv0, ho0⟩ := h0.row
      have e1 := (hBa.block w.heap.size (by omega)).trans ((hb05.block w.heap.size (by omega)).trans hv0)
      rw [hv5] at e1
      simp only [Option.some.injEq, Obj.cells.injEq, Array.mk.injEq, List.cons.injEq] at e1
      obtain rfl := e1.1.1
      exact (ho0.lt k hk).2
    refine (round_joint (F := Fence.wide) (n := 2) (args := #[.agg #[.int .i64 x.kind, .string x.text, .string x.glyph]])
      (Post := fun W3 => (∃ v3, W3.heap[w.heap.size]? = some (.cells #[v3] 23 (0, 0)) ∧ W3.ownsRow w.heap.size tK 3 v3 (pre ++ [x]).length (tokCells (pre ++ [x]))) ∧ Below w.heap.size W6 W3 ∧ (∀ k, k ≠ w.heap.size → v.ownBlock ≠ some k → k < W6.heap.size → W3.heap[k]? = W6.heap[k]?)) trivial hF5.books r1 r2 (by rw [r3]; rfl) ?_).mono ?_
    · have HW6 := Lib.hid hW6
      have c0 : W6.cell? ⟨w.heap.size, 0, none⟩ = some v := by simp [World.cell?, hv6]
      have z0 : W6.frozen? ⟨w.heap.size, 0, none⟩ = false := frozen_of_row W6 _ 0 _ _ hv6
      obtain ⟨x0, x1, x2, _⟩ := tok_cells hX6
      have lv6 : w.heap.size < W6.heap.size := by omega
      obtain ⟨A5, c5, rfl, _, _, _⟩ := holdsT_of_own hown6
      obtain ⟨A9, c9, w9, hrun, hN9, hgr9, hat9⟩ := push_tok (x := x) (g := W6.heap.size) (W := W6.alloc (.cells #[.int .i64 x.kind, .string x.text, .string x.glyph] tK)) (heap_alloc_new W6 _) (hown6.alloc _) hpl (by simp; omega)
      have hbB6 := below_new W6 (.cells #[.int .i64 x.kind, .string x.text, .string x.glyph] tK)
      have hne6 : (Value.slice A5 pre.length c5).ownBlock ≠ some w.heap.size := fun e => own_apart_cells hown6 hv6 (by decide) e
      have hv9 : w9.heap[w.heap.size]? = some (.cells #[.slice A5 pre.length c5] 23 (0, 0)) := (hgr9.block w.heap.size (by simp; omega) (fun e => hne6 e.symm)).trans ((hbB6.block _ lv6).trans hv6)
      have c9' : w9.cell? ⟨w.heap.size, 0, none⟩ = some (.slice A5 pre.length c5) := by simp [World.cell?, hv9]
      have z9' : w9.frozen? ⟨w.heap.size, 0, none⟩ = false := frozen_of_row w9 _ 0 _ _ hv9
      have HV9 := Lib.hid hv9
      have HN9 := Lib.hid hN9
      have HG9 := Lib.hid hgr9
      have HB6 := Lib.hid hbB6
      clear hv9 hN9 hgr9 hat9 hbB6
      have HZ6 := Lib.hid hz6
      have HO6 := Lib.hid hown6
      clear hz6 ho6 hX6 hv6 hS6 hown6 hown0
      clear hW6 hFa hXa hBa hF5 hF0 h0 hSW hwW hVW hW hBk hXA2 hXS hXA hbA hbS hL r1 r2 r3 hown5 hv5 hy hS5 hb05 hza
      subst hr
      gi_wp2_with fail
      refine ⟨hKa, ?_⟩
      rw [HW6.out]
      clear hKa HW6
      gi_wp2_with (gi_at_builtin; go_must (refine wpListIn_append_run rfl _ _ 23 23 rfl rfl rfl hrun ?_))
      have hv10 : (w9.setCell ⟨w.heap.size, 0, none⟩ (.slice A9 (pre.length + 1) c9)).heap[w.heap.size]? = some (.cells #[.slice A9 (pre.length + 1) c9] 23 (0, 0)) := by
        rw [heap_setCell_same w9 w.heap.size 0 _ _ _ HV9.out]
        simp
      refine ⟨((KeepsOthers.alloc W6 _).trans (KeepsOthers.of_grownBy HG9.out (fun j o ej hj => ?_))).trans (KeepsOthers.setCell _ _ _), ⟨_, hv10, ?_⟩, ?_, fun k hk1 hk2 hk3 => ?_⟩
      · rcases HO6.out.2 with ⟨e, _⟩ | ⟨g, cap, cur, e, _, hgb, _⟩
        · rw [e] at ej; simp [Value.ownBlock] at ej
        · rw [e] at ej
          obtain rfl : g = j := by simpa [Value.ownBlock] using ej
          have := (HB6.out.block g (Array.getElem?_eq_some_iff.1 hgb).1).trans hgb
          rw [this] at hj
          cases hj
          rfl
      · have hn := HN9.out
        rw [List.length_append, List.length_singleton] at hn
        exact hn.kept (grown_setCell w9 ⟨w.heap.size, 0, none⟩ _) (Or.inr (fun e => own_apart_cells hn HV9.out (by decide) e))
      · exact (((HB6.out.mono (by omega)).grown HG9.out (by simp; omega) (fun k e => ownBlock_ge HO6.out k e))).setCell (p := ⟨w.heap.size, 0, none⟩) (Nat.le_refl _) _
      · exact (heap_setCell_other _ _ _ _ hk1).trans ((HG9.out.block k (by simp; omega) (fun e => hk2 e.symm)).trans (HB6.out.block k hk3))
    · rintro e W' ⟨rfl, hB', W3, hB3, rfl, ⟨v3, hv3, hown3⟩, hb3, hk3⟩
      have hoP : ∀ j, j ≠ w.heap.size + 2 + 1 → (W3.putObj (w.heap.size + 2 + 1) (.loop r)).heap[j]? = W3.heap[j]? := fun j hj => World.putObj_heap_other hj
      have hbP : Below w.heap.size W3 (W3.putObj (w.heap.size + 2 + 1) (.loop r)) := ⟨rfl, rfl, rfl, by simp [World.putObj], fun k hk => hoP k (by omega)⟩
      have hvS : v.ownBlock ≠ some (w.heap.size + 1) := fun e => own_apart_cells hown6 hS6 (by decide) e
      have hS3 := (hk3 (w.heap.size + 1) (by omega) hvS (by omega)).trans hS6
      have hlo5 := hF5.low.size
      refine ⟨rfl, ⟨⟨((hF5.low.trans hb56).trans hb3).trans hbP, ⟨v3, (hoP _ (by omega)).trans hv3, ownsRow_putObj hown3 _ hB3.lp rfl⟩, hB'⟩, _, (hoP _ (by omega)).trans hS3⟩, ?_, ?_, fun k hk1 hk2 => ?_⟩
      · exact (hoP _ (by omega)).trans (hS3.trans hS5.symm)
      · have := hb3.size
        simp [World.putObj]
        omega
      · exact (hoP k (by omega)).trans ((hk3 k (by omega) (fun e => by have := hown0 k e; omega) (by omega)).trans ((ho6 k (by omega)).trans (hBa.block k hk2)))
  · rintro e W' ⟨hv, hF, _⟩
    refine ⟨hv, hF.books, ?_⟩
    have hput : ∀ j, j ≠ w.heap.size + 2 + 1 → (W'.putObj (w.heap.size + 2 + 1) (.loop { r with state := .exhausted })).heap[j]? = W'.heap[j]? := fun j hj => World.putObj_heap_other hj
    have hbP : Below w.heap.size W' (W'.putObj (w.heap.size + 2 + 1) (.loop { r with state := .exhausted })) := ⟨rfl, rfl, rfl, by simp [World.putObj], fun k hk => hput k (by omega)⟩
    obtain ⟨v, hv', hown⟩ := hF.row
    have hD8 := (hput (w.heap.size + 2) (by omega)).trans hF.books.calls
    have hv8 := (hput w.heap.size (by omega)).trans hv'
    have HO8 := Lib.hid (ownsRow_putObj hown (.loop { r with state := .exhausted }) hF.books.lp rfl)
    have HB8 := Lib.hid (hF.low.trans hbP)
    generalize W'.putObj (w.heap.size + 2 + 1) (.loop { r with state := .exhausted }) = W8 at *
    have c8 : W8.cell? ⟨w.heap.size, 0, none⟩ = some v := by simp [World.cell?, hv8]
    clear hput hbP hown hF hv' hv8 hv hF0 hwW hVW hr hBk hW hSW
    go_wp2_with fail
    refine ⟨by simp, .inl ⟨_, _, rfl, run_takeDeferred hD8, ?_⟩⟩
    refine ⟨_, results_tmp rfl _ _ _, _, rfl, ?_, ?_⟩
    · exact ownsRow_putObj HO8.out _ hD8 rfl
    · exact HB8.out.trans ⟨rfl, rfl, rfl, by simp [World.putObj], fun k hk => World.putObj_heap_other (show k ≠ w.heap.size + 2 by omega)⟩
end Go.Proofs.YteojnejomgomjaaDoor
