/-
  The bodies of whole frames: by the program.
-/
import Derived.Test.YtjlehlkkgkplmaaDoorProg
import Derived.Test.YtjlehlkkgkplmaaDoorReg
import Derived.WalkKit
import Derived.WalkSpells
import Derived.WalkLawsBesides
import Derived.Lib.Hide
import Derived.Lib.MinMax
import Derived.Deep.QuietTactic
import Derived.BigQuiet
import Derived.OwnWalk
import Derived.Deep.AppendLies
import Derived.KernelRfl
import Derived.Laws.OwnMore
import Derived.Deep.OwnRows
import Derived.Maps.AppendAt
import Derived.Deep.RegionWith
import Derived.Test.YtjlehlkkgkplmaaDoorJoint
import Derived.Test.YtjlehlkkgkplmaaDoorFrW
import Derived.Test.YtjlehlkkgkplmaaDoorFrI
set_option linter.unusedSimpArgs false
set_option linter.unusedVariables false
namespace Go.Proofs.YtjlehlkkgkplmaaDoor
open Go.RowKit Go.Maps

attribute [local go_sem] Oper.semAt_some

theorem wpListIn_append_run {F : Fence} {n : Nat} {P : Program} {w w' : World} {ops : Array Oper} {rest : List Oper} {o : Oper} {a : Act} {Q : Exit → Act → World → Prop} {v u v' : Value} (hg : o.guard = none) (s x : Operand) (t t2 : TypeId)
    (hop : o.op = .call { callee := .builtin .append, args := #[s, x], argTypes := #[t, t2] }) (hs : a.eval s = v) (hx : a.eval x = u) (hr : (Builtin.append_ #[t, t2] o.type #[v, u]).run P w = .ok v' w') (h : wpListIn F n P ops Q rest (a.put o.dst v') w') : wpListIn F n P ops Q (o :: rest) a w := by
  refine wpListIn_plain hg fun K hK' => ?_
  unfold Oper.wpIn
  refine ⟨?_, ?_⟩
  · simp [Oper.about, hop, resolve, Target.leads, Sem.run_pure]
  · rw [Oper.semAt_plain F _ _ (by rw [hop]; intro c hc'; cases hc')]
    simp [execOp, hop, resolve, invoke, builtin, hs, hx, hr, Result.andThen]
    exact hK' _ _ h

/-- What the loop over the bodies holds. -/
structure BodyAt (w : World) (X L D : Nat) (r : Loop) (pre : List ByteArray) (W : World) : Prop where
  low : w.grownBy W (some X)
  row : ∃ v, W.heap[w.heap.size]? = some (.cells #[v] 27 (0, 0)) ∧ W.ownsRow w.heap.size sK 1 v pre.length (strCells pre)
  books : Books L D r W
theorem grown_two {w w1 w2 : World} {X : Nat} (h : w.grownBy w1 (some X)) (k : w1.grownBy w2 (some X)) : w.grownBy w2 (some X) :=
  ⟨k.os.trans h.os, k.tape.trans h.tape, k.output.trans h.output, Nat.le_trans h.size k.size, fun j hj hn => (k.block j (Nat.lt_of_lt_of_le hj h.size) hn).trans (h.block j hj hn)⟩
theorem grown_else {w w1 w2 : World} {X q : Nat} (h : w.grownBy w1 (some X)) (k : w1.grownBy w2 (some q)) (hq : w.heap.size ≤ q) : w.grownBy w2 (some X) :=
  ⟨k.os.trans h.os, k.tape.trans h.tape, k.output.trans h.output, Nat.le_trans h.size k.size, fun j hj hn => (k.block j (Nat.lt_of_lt_of_le hj h.size) (fun e => by cases e; omega)).trans (h.block j hj hn)⟩
theorem BodyAt.grown {w W W' : World} {X L D : Nat} {r : Loop} {pre : List ByteArray} (h : BodyAt w X L D r pre W) (hb : W.grownBy W' (some X)) (hX : X < w.heap.size) (hL : w.heap.size ≤ L) (hD : w.heap.size ≤ D) : BodyAt w X L D r pre W' := by
  obtain ⟨v, h1, h2⟩ := h.row
  have hk : ∀ k o, W.heap[k]? = some o → w.heap.size ≤ k → W'.heap[k]? = some o := fun k o hk hne => (hb.block k (Array.getElem?_eq_some_iff.1 hk).1 (fun e => by cases e; omega)).trans hk
  exact ⟨grown_two h.low hb, ⟨v, hk _ _ h1 (Nat.le_refl _), h2.kept hb (Or.inr (fun e => by have := ownBlock_ge h2 X e; omega))⟩, ⟨hk _ _ h.books.lp hL, hk _ _ h.books.calls hD, h.books.ne⟩⟩

theorem splitGo_len : ∀ (k : Nat) (s : List UInt8), (splitGo k s).1.length ≤ k
  | 0, _ => Nat.le_refl _
  | k + 1, s => by
    rw [splitGo]
    cases frOf s with
    | more => exact Nat.zero_le _
    | bad => exact Nat.zero_le _
    | got a n =>
      have := splitGo_len k (s.drop (a + n))
      simp only [List.length_cons]
      omega
theorem splitB_len (s : ByteArray) : (splitB s).1.length ≤ s.size + 1 := by
  unfold splitB splitS
  rw [List.length_map]
  exact splitGo_len _ _

set_option maxRecDepth 100000 in
set_option maxHeartbeats 8000000 in
/-- The bodies of what is left. -/
theorem bodies_any (X : Nat) (T : TypeId) (a : Addr) (s : ByteArray) (w : World) (hs : s.size ≤ 900000) (hX : IsLf w X T a s false) (hLa : ∀ W, w.grownBy W (some X) → LaidF a W) :
    Calls Tryd.prog 25 #[.pointer (some ⟨X, 0, none⟩)] w fun e w' => ∃ v, e = .returned v ∧ w'.ownsRow w.heap.size sK 1 v (splitB s).1.length (strCells (splitB s).1) ∧ w.grownBy w' (some X) ∧ IsLf w' X T a (splitB s).2.1 (splitB s).2.2 := by
  have hlX := hX.lt
  have hbA := below_new w (.cells #[.slice none 0 0] 27)
  have hXA := heap_alloc_new w (.cells #[.slice none 0 0] 27)
  have hzA : (w.alloc (.cells #[.slice none 0 0] 27)).heap.size = w.heap.size + 1 := by simp
  have hbS := below_new (w.alloc (.cells #[.slice none 0 0] 27)) (.cells #[.pointer (some ⟨X, 0, none⟩)] 50)
  have hXS := heap_alloc_new (w.alloc (.cells #[.slice none 0 0] 27)) (.cells #[.pointer (some ⟨X, 0, none⟩)] 50)
  have hzS : ((w.alloc (.cells #[.slice none 0 0] 27)).alloc (.cells #[.pointer (some ⟨X, 0, none⟩)] 50)).heap.size = w.heap.size + 2 := by simp
  rw [hzA] at hXS hbS
  have hXA2 := (hbS.block w.heap.size (by omega)).trans hXA
  have hL := hbA.trans (hbS.mono (by omega))
  refine calls_of_wp_marks 3 Tryd.func25 rfl ?_
  simp only [Tryd.ntmps25, List.size_toArray, List.length_cons, List.length_nil, Nat.reduceAdd, Nat.reduceSub, Array.replicate_succ, Array.replicate_zero, List.push_toArray, List.append_toArray, List.nil_append, List.cons_append]
  go_wp2_with fail
  refine (frames_any X _).mono ?_
  rintro e w2 ⟨rfl, rfl⟩
  go_wp2_with fail
  generalize (w.alloc (.cells #[.slice none 0 0] 27)).alloc (.cells #[.pointer (some ⟨X, 0, none⟩)] 50) = V at *
  refine wpIn_wide.1 (range_joint (n := 3) (F := Fence.wide) rfl (by omega) (gf := 36) (lb := #[.pointer (some ⟨w.heap.size + 1, 0, none⟩)]) rfl trivial (enters_of Tryd.func36 (by kernel_rfl) rfl) ?_)
  intro fn r W hfn hr hW hBk
  have hVW : Below V.heap.size V W := by rw [hW]; exact ((Below.refl _ V).alloc (Nat.le_refl _) _).alloc (by simp) _
  have hzW : W.heap.size = w.heap.size + 4 := by rw [hW]; simp; omega
  rw [hzS] at hBk hVW ⊢
  have hwW : Below w.heap.size w W := hL.trans (hVW.mono (by omega))
  have hF0 : BodyAt w X (w.heap.size + 2 + 1) (w.heap.size + 2) r [] W := ⟨grown_low X hwW, ⟨_, (hVW.block _ (by omega)).trans hXA2, World.ownsRow_nil _ _ _ _⟩, hBk⟩
  have hSW := (hVW.block (w.heap.size + 1) (by omega)).trans hXS
  have hXW : IsLf W X T a s false := hX.below hwW
  refine callsIn_wide.2 ((frames1_any 2 (w.heap.size + 2 + 1) (w.heap.size + 1) X T a s (fun pre W' => BodyAt w X (w.heap.size + 2 + 1) (w.heap.size + 2) r pre W' ∧ W'.heap[w.heap.size + 1]? = some (.cells #[.pointer (some ⟨X, 0, none⟩)] 50 (0, 0))) W (by omega) hXW ⟨hF0, hSW⟩ ?hStays ?hHolds ?hRounds).mono ?_)
  case hStays =>
    rintro pre W1 W2 ⟨h1, h2⟩ hb
    exact ⟨h1.grown hb hlX (by omega) (by omega), (hb.block _ (Array.getElem?_eq_some_iff.1 h2).1 (fun e => by cases e; omega)).trans h2⟩
  case hHolds =>
    rintro pre W1 ⟨h1, h2⟩
    exact ⟨hLa _ h1.low, h2⟩
  case hRounds =>
    rintro pre x W0 W5 ⟨h0, hy⟩ hlen hz0 hb05
    have hF5 := h0.grown hb05 hlX (by omega) (by omega)
    have hS5 := (hb05.block _ (Array.getElem?_eq_some_iff.1 hy).1 (fun e => by cases e; omega)).trans hy
    have hpl : pre.length ≤ 1000000 := by have := splitB_len s; omega
    have r1 : r.state = .ready := by rw [hr]
    have r2 : r.pending = none := by rw [hr]
    have r3 : r.params.size = 1 := by rw [hr]; rfl
    rw [hzW] at hz0
    have hz5 := hb05.size
    obtain ⟨W6, hW6⟩ : ∃ W6, W5.putObj (w.heap.size + 2 + 1) (.loop { r with state := .busy }) = W6 := ⟨_, rfl⟩
    have ho6 : ∀ j, j ≠ w.heap.size + 2 + 1 → W6.heap[j]? = W5.heap[j]? := fun j hj => by rw [← hW6]; exact World.putObj_heap_other hj
    have hz6 : W6.heap.size = W5.heap.size := by rw [← hW6]; simp [World.putObj]
    obtain ⟨v, hv5, hown5⟩ := hF5.row
    have hv6 := (ho6 w.heap.size (by omega)).trans hv5
    have hown6 : W6.ownsRow w.heap.size sK 1 v pre.length (strCells pre) := by rw [← hW6]; exact ownsRow_putObj hown5 _ hF5.books.lp rfl
    have hb56 : Below w.heap.size W5 W6 := by rw [← hW6]; exact ⟨rfl, rfl, rfl, by simp [World.putObj], fun k hk => World.putObj_heap_other (show k ≠ w.heap.size + 2 + 1 by omega)⟩
    refine (round_joint (F := Fence.wide) (n := 2) (args := #[.string x])
      (Post := fun W3 => (∃ v3, W3.heap[w.heap.size]? = some (.cells #[v3] 27 (0, 0)) ∧ W3.ownsRow w.heap.size sK 1 v3 (pre ++ [x]).length (strCells (pre ++ [x]))) ∧ Below w.heap.size W6 W3 ∧ (∀ k, k ≠ w.heap.size → v.ownBlock ≠ some k → k < W6.heap.size → W3.heap[k]? = W6.heap[k]?)) trivial hF5.books r1 r2 (by rw [r3]; rfl) ?_).mono ?_
    · have HW6 := Lib.hid hW6
      have c0 : W6.cell? ⟨w.heap.size, 0, none⟩ = some v := by simp [World.cell?, hv6]
      have z0 : W6.frozen? ⟨w.heap.size, 0, none⟩ = false := frozen_of_row W6 _ 0 _ _ hv6
      have lv6 : w.heap.size < W6.heap.size := by omega
      obtain ⟨A5, c5, rfl, _, _, _⟩ := holdsS_of_own hown6
      obtain ⟨A9, c9, w9, hrun, hN9, hgr9, hat9⟩ := push_str (x := x) (g := W6.heap.size) (W := W6.alloc (.cells #[.string x] sK)) (heap_alloc_new W6 _) (hown6.alloc _) hpl (by simp; omega)
      have hbB6 := below_new W6 (.cells #[.string x] sK)
      have hne6 : (Value.slice A5 pre.length c5).ownBlock ≠ some w.heap.size := fun e => own_apart_cells hown6 hv6 (by decide) e
      have hv9 : w9.heap[w.heap.size]? = some (.cells #[.slice A5 pre.length c5] 27 (0, 0)) := (hgr9.block w.heap.size (by simp; omega) (fun e => hne6 e.symm)).trans ((hbB6.block _ lv6).trans hv6)
      have c9' : w9.cell? ⟨w.heap.size, 0, none⟩ = some (.slice A5 pre.length c5) := by simp [World.cell?, hv9]
      have z9' : w9.frozen? ⟨w.heap.size, 0, none⟩ = false := frozen_of_row w9 _ 0 _ _ hv9
      have HV9 := Lib.hid hv9
      have HN9 := Lib.hid hN9
      have HG9 := Lib.hid hgr9
      have HB6 := Lib.hid hbB6
      clear hv9 hN9 hgr9 hat9 hbB6
      have HZ6 := Lib.hid hz6
      have HO6 := Lib.hid hown6
      clear hz6 ho6 hv6 hown6
      clear hW6 hF5 hF0 h0 hSW hwW hVW hW hBk hXA2 hXS hXA hbA hbS hL r1 r2 r3 hown5 hv5 hy hS5 hb05 hXW hX
      subst hr
      gi_wp2_with fail
      refine ⟨KeepsOthers.refl _, ?_⟩
      rw [HW6.out]
      clear HW6
      gi_wp2_with (gi_at_builtin; go_must (refine wpListIn_append_run rfl _ _ 27 27 rfl rfl rfl hrun ?_))
      have hv10 : (w9.setCell ⟨w.heap.size, 0, none⟩ (.slice A9 (pre.length + 1) c9)).heap[w.heap.size]? = some (.cells #[.slice A9 (pre.length + 1) c9] 27 (0, 0)) := by
        rw [heap_setCell_same w9 w.heap.size 0 _ _ _ HV9.out]
        simp
      refine ⟨((KeepsOthers.alloc W6 _).trans (KeepsOthers.of_grownBy HG9.out (fun j o ej hj => ?_))).trans (KeepsOthers.setCell _ _ _), ⟨_, hv10, ?_⟩, ?_, fun k hk1 hk2 hk3 => ?_⟩
      · rcases HO6.out.2 with ⟨e, _⟩ | ⟨g, cap, cur, e, _, hgb, _⟩
        · rw [e] at ej; simp [Value.ownBlock] at ej
        · rw [e] at ej
          obtain rfl : g = j := by simpa [Value.ownBlock] using ej
          have := (HB6.out.block g (Array.getElem?_eq_some_iff.1 hgb).1).trans hgb
          rw [this] at hj
          cases hj
          rfl
      · have hn := HN9.out
        rw [List.length_append, List.length_singleton] at hn
        exact hn.kept (grown_setCell w9 ⟨w.heap.size, 0, none⟩ _) (Or.inr (fun e => own_apart_cells hn HV9.out (by decide) e))
      · exact (((HB6.out.mono (by omega)).grown HG9.out (by simp; omega) (fun k e => ownBlock_ge HO6.out k e))).setCell (p := ⟨w.heap.size, 0, none⟩) (Nat.le_refl _) _
      · exact (heap_setCell_other _ _ _ _ hk1).trans ((HG9.out.block k (by simp; omega) (fun e => hk2 e.symm)).trans (HB6.out.block k hk3))
    · rintro e W' ⟨rfl, hB', W3, hB3, rfl, ⟨v3, hv3, hown3⟩, hb3, hk3⟩
      have hoP : ∀ j, j ≠ w.heap.size + 2 + 1 → (W3.putObj (w.heap.size + 2 + 1) (.loop r)).heap[j]? = W3.heap[j]? := fun j hj => World.putObj_heap_other hj
      have hbP : Below w.heap.size W3 (W3.putObj (w.heap.size + 2 + 1) (.loop r)) := ⟨rfl, rfl, rfl, by simp [World.putObj], fun k hk => hoP k (by omega)⟩
      have hS6 := (ho6 (w.heap.size + 1) (by omega)).trans hS5
      have hvS : v.ownBlock ≠ some (w.heap.size + 1) := fun e => own_apart_cells hown6 hS6 (by decide) e
      have hS3 := (hk3 (w.heap.size + 1) (by omega) hvS (by omega)).trans hS6
      have hall : Below w.heap.size W5 (W3.putObj (w.heap.size + 2 + 1) (.loop r)) := (hb56.trans hb3).trans hbP
      have hlow : w.grownBy (W3.putObj (w.heap.size + 2 + 1) (.loop r)) (some X) :=
        ⟨hall.os.trans hF5.low.os, hall.tape.trans hF5.low.tape, hall.output.trans hF5.low.output, Nat.le_trans hF5.low.size hall.size, fun k hk hn => (hall.block k hk).trans (hF5.low.block k hk hn)⟩
      refine ⟨rfl, ⟨⟨hlow, ⟨v3, (hoP _ (by omega)).trans hv3, ownsRow_putObj hown3 _ hB3.lp rfl⟩, hB'⟩, (hoP _ (by omega)).trans hS3⟩, hall.block X hlX, hall.size⟩
  · rintro e W' ⟨hv, ⟨hF, _⟩, hxe⟩
    refine ⟨hv, hF.books, ?_⟩
    have hput : ∀ j, j ≠ w.heap.size + 2 + 1 → (W'.putObj (w.heap.size + 2 + 1) (.loop { r with state := .exhausted })).heap[j]? = W'.heap[j]? := fun j hj => World.putObj_heap_other hj
    have hbP : Below w.heap.size W' (W'.putObj (w.heap.size + 2 + 1) (.loop { r with state := .exhausted })) := ⟨rfl, rfl, rfl, by simp [World.putObj], fun k hk => hput k (by omega)⟩
    obtain ⟨v, hv', hown⟩ := hF.row
    have hD8 := (hput (w.heap.size + 2) (by omega)).trans hF.books.calls
    have hv8 := (hput w.heap.size (by omega)).trans hv'
    have hx8 : IsLf _ X T a (splitB s).2.1 (splitB s).2.2 := (hput X (by omega)).trans hxe
    have HO8 := Lib.hid (ownsRow_putObj hown (.loop { r with state := .exhausted }) hF.books.lp rfl)
    have hbq : ∀ W9, Below w.heap.size W' W9 → w.grownBy W9 (some X) := fun W9 h => ⟨h.os.trans hF.low.os, h.tape.trans hF.low.tape, h.output.trans hF.low.output, Nat.le_trans hF.low.size h.size, fun k hk hn => (h.block k hk).trans (hF.low.block k hk hn)⟩
    have HQ8 := Lib.hid hbq
    have HB8 := Lib.hid hbP
    have HX8 := Lib.hid hx8
    generalize W'.putObj (w.heap.size + 2 + 1) (.loop { r with state := .exhausted }) = W8 at *
    have c8 : W8.cell? ⟨w.heap.size, 0, none⟩ = some v := by simp [World.cell?, hv8]
    clear hput hbP hown hF hv' hv8 hv hF0 hwW hVW hr hBk hW hSW hx8 hxe hbq hXW hX
    go_wp2_with fail
    refine ⟨by simp, .inl ⟨_, _, rfl, run_takeDeferred hD8, ?_⟩⟩
    have hbD : Below w.heap.size W8 (W8.putObj (w.heap.size + 2) (.deferred none)) := ⟨rfl, rfl, rfl, by simp [World.putObj], fun k hk => World.putObj_heap_other (show k ≠ w.heap.size + 2 by omega)⟩
    refine ⟨_, results_tmp rfl _ _ _, _, rfl, ?_, ?_, ?_⟩
    · exact ownsRow_putObj HO8.out _ hD8 rfl
    · exact HQ8.out _ (HB8.out.trans hbD)
    · exact (World.putObj_heap_other (show X ≠ w.heap.size + 2 by omega)).trans HX8.out
end Go.Proofs.YtjlehlkkgkplmaaDoor
