/-
  The line in which a place is: by the program.
-/
import Derived.Test.YtflpihedhccdfaaGreatDoorProg
import Derived.Test.YtflpihedhccdfaaGreatDoorReg
import Derived.WalkKit
import Derived.WalkSpells
import Derived.WalkLawsBesides
import Derived.Lib.Hide
import Derived.Lib.MinMax
import Derived.Deep.QuietTactic
import Derived.BigQuiet
import Derived.OwnWalk
import Derived.Deep.AppendLies
import Derived.KernelRfl
import Derived.Laws.OwnMore
import Derived.Deep.OwnRows
import Derived.Deep.RegionWith
import Derived.Test.YtflpihedhccdfaaGreatDoorRxS
import Derived.Test.YtflpihedhccdfaaGreatDoorLxM11
set_option linter.unusedSimpArgs false
set_option linter.unusedVariables false
namespace Go.Proofs.YtflpihedhccdfaaGreatDoor
open Go.RowKit Go.Maps

attribute [local go_sem] Oper.semAt_some

/-- The last of the first k lines that begins no later, and where it begins. -/
def findUp (p : Nat) (l : List Ln) : Nat → Nat × Nat
  | 0 => (0, 0)
  | k + 1 => if startL l k ≤ p then (k, startL l k) else findUp p l k

/-- What the loop over the lines holds. -/
structure InAt (w : World) (p : Nat) (l : List Ln) (L D : Nat) (r : Loop) (k : Nat) (W : World) : Prop where
  low : Below w.heap.size w W
  place : W.heap[w.heap.size]? = some (.cells #[.int .i64 (p : Int)] 3 (0, 0))
  num : W.heap[w.heap.size + 1]? = some (.cells #[.int .i64 ((findUp p l k).1 : Int)] 3 (0, 0))
  beg : W.heap[w.heap.size + 2]? = some (.cells #[.int .i64 ((findUp p l k).2 : Int)] 3 (0, 0))
  books : Books L D r W
theorem InAt.below {w W W' : World} {p : Nat} {l : List Ln} {L D : Nat} {r : Loop} {k : Nat} (h : InAt w p l L D r k W) (hb : Below W.heap.size W W') : InAt w p l L D r k W' :=
  have kk : ∀ j o, W.heap[j]? = some o → W'.heap[j]? = some o := fun j o e => (hb.block _ (Array.getElem?_eq_some_iff.1 e).1).trans e
  ⟨h.low.trans (hb.mono h.low.size), kk _ _ h.place, kk _ _ h.num, kk _ _ h.beg, ⟨kk _ _ h.books.lp, kk _ _ h.books.calls, h.books.ne⟩⟩

set_option maxRecDepth 100000 in
set_option maxHeartbeats 8000000 in
theorem find_any (p X : Nat) (A : Option Addr) (c : Nat) (l : List Ln) (w : World) (hl : l.length ≤ 1000000) (hsz : startL l l.length ≤ 1000000) (hp : p ≤ 1000000)
    (hX : w.cell? ⟨X, 0, none⟩ = some (.slice A l.length c)) (hH : HoldsL w A l) :
    Calls Tryz.prog 30 #[.pointer (some ⟨X, 0, none⟩), .int .i64 (p : Int)] w fun e w' => e = .returned (.tuple #[.int .i64 ((findUp p l l.length).1 : Int), .int .i64 ((findUp p l l.length).2 : Int)]) ∧ Below w.heap.size w w' := by
  have lX := cell_lt hX
  have h1 := below_new w (.cells #[.int .i64 (p : Int)] 3)
  refine calls_of_wp_marks 3 Tryz.func30 rfl ?_
  simp only [Tryz.ntmps30, List.size_toArray, List.length_cons, List.length_nil, Nat.reduceAdd, Nat.reduceSub, Array.replicate_succ, Array.replicate_zero, List.push_toArray, List.append_toArray, List.nil_append, List.cons_append]
  go_wp2_with fail
  refine (begins_any _ _).mono ?_
  rintro e w2 ⟨rfl, rfl⟩
  go_wp2_with fail
  obtain ⟨V, hV⟩ : ∃ V, (((w.alloc (.cells #[.int .i64 (p : Int)] 3)).alloc (.cells #[.int .i64 0] 3)).alloc (.cells #[.int .i64 0] 3)).alloc (.cells #[.pointer (some ⟨X, 0, none⟩)] 84) = V := ⟨_, rfl⟩
  have hzV : V.heap.size = w.heap.size + 4 := by rw [← hV]; simp
  have hA0 := heap_alloc_new w (.cells #[.int .i64 (p : Int)] 3)
  have hA1 := heap_alloc_new (w.alloc (.cells #[.int .i64 (p : Int)] 3)) (.cells #[.int .i64 0] 3)
  have hA2 := heap_alloc_new ((w.alloc (.cells #[.int .i64 (p : Int)] 3)).alloc (.cells #[.int .i64 0] 3)) (.cells #[.int .i64 0] 3)
  have hA3 := heap_alloc_new (((w.alloc (.cells #[.int .i64 (p : Int)] 3)).alloc (.cells #[.int .i64 0] 3)).alloc (.cells #[.int .i64 0] 3)) (.cells #[.pointer (some ⟨X, 0, none⟩)] 84)
  have hb1 := below_new (w.alloc (.cells #[.int .i64 (p : Int)] 3)) (.cells #[.int .i64 0] 3)
  have hb2 := below_new ((w.alloc (.cells #[.int .i64 (p : Int)] 3)).alloc (.cells #[.int .i64 0] 3)) (.cells #[.int .i64 0] 3)
  have hb3 := below_new (((w.alloc (.cells #[.int .i64 (p : Int)] 3)).alloc (.cells #[.int .i64 0] 3)).alloc (.cells #[.int .i64 0] 3)) (.cells #[.pointer (some ⟨X, 0, none⟩)] 84)
  simp only [World.size_alloc] at hA1 hA2 hA3 hb1 hb2 hb3
  rw [hV] at hA3 hb3
  have hP0 := (hb3.block w.heap.size (by omega)).trans ((hb2.block w.heap.size (by omega)).trans ((hb1.block w.heap.size (by omega)).trans hA0))
  have hP1 := (hb3.block (w.heap.size + 1) (by omega)).trans ((hb2.block (w.heap.size + 1) (by omega)).trans hA1)
  have hP2 := (hb3.block (w.heap.size + 1 + 1) (by omega)).trans hA2
  have hLV : Below w.heap.size w V := ((h1.trans (hb1.mono (by omega))).trans (hb2.mono (by omega))).trans (hb3.mono (by omega))
  try rw [hV]
  clear hV hA0 hA1 hA2 hb1 hb2 hb3 h1
  refine wpIn_wide.1 (range_joint (n := 3) (F := Fence.wide) rfl (by omega) (gf := 64) (lb := #[.pointer (some ⟨w.heap.size + 1 + 1 + 1, 0, none⟩)]) rfl trivial (enters_of Tryz.func64 (by kernel_rfl) rfl) ?_)
  intro fn r W hfn hr hW hBk
  have hVW : Below V.heap.size V W := by rw [hW]; exact ((Below.refl _ V).alloc (Nat.le_refl _) _).alloc (by simp) _
  have hzW : W.heap.size = w.heap.size + 6 := by rw [hW]; simp; omega
  rw [hzV] at hBk hVW ⊢
  have hwW : Below w.heap.size w W := hLV.trans (hVW.mono (by omega))
  have hF0 : InAt w p l (w.heap.size + 4 + 1) (w.heap.size + 4) r 0 W := ⟨hwW, (hVW.block _ (by omega)).trans hP0, (hVW.block _ (by omega)).trans hP1, (hVW.block _ (by omega)).trans hP2, hBk⟩
  have hS3 := (hVW.block (w.heap.size + 1 + 1 + 1) (by omega)).trans hA3
  have hS : W.cell? ⟨w.heap.size + 1 + 1 + 1, 0, none⟩ = some (.pointer (some ⟨X, 0, none⟩)) := by simp [World.cell?, hS3]
  have hXW := (hwW.cell (p := ⟨X, 0, none⟩) lX).trans hX
  refine callsIn_wide.2 ((begins1_any 2 (w.heap.size + 4 + 1) (w.heap.size + 1 + 1 + 1) X A c l (fun k W' => InAt w p l (w.heap.size + 4 + 1) (w.heap.size + 4) r k W') W hl hsz hS hXW hF0 ?hStays ?hHolds ?hRounds).mono ?_)
  case hStays => exact fun k W1 W2 h hb => h.below hb
  case hHolds => exact fun k W1 h => hH.below h.low
  case hRounds =>
    intro k x W0 W5 hx h0 hz0 hb05
    have hF5 := h0.below hb05
    have r1 : r.state = .ready := by rw [hr]
    have r2 : r.pending = none := by rw [hr]
    have r3 : r.params.size = 2 := by rw [hr]; rfl
    have hz5 := hb05.size
    have hst := startL_le l k
    obtain ⟨W6, hW6⟩ : ∃ W6, W5.putObj (w.heap.size + 4 + 1) (.loop { r with state := .busy }) = W6 := ⟨_, rfl⟩
    have ho6 : ∀ j, j ≠ w.heap.size + 4 + 1 → W6.heap[j]? = W5.heap[j]? := fun j hj => by rw [← hW6]; exact World.putObj_heap_other hj
    have hz6 : W6.heap.size = W5.heap.size := by rw [← hW6]; simp [World.putObj]
    have p6 := (ho6 w.heap.size (by omega)).trans hF5.place
    have n6 := (ho6 (w.heap.size + 1) (by omega)).trans hF5.num
    have b6 := (ho6 (w.heap.size + 2) (by omega)).trans hF5.beg
    refine (round_joint (F := Fence.wide) (n := 2) (args := #[.int .i64 k, .int .i64 (startL l k)])
      (Post := fun W3 => W3.heap[w.heap.size + 1]? = some (.cells #[.int .i64 ((findUp p l (k + 1)).1 : Int)] 3 (0, 0)) ∧ W3.heap[w.heap.size + 2]? = some (.cells #[.int .i64 ((findUp p l (k + 1)).2 : Int)] 3 (0, 0)) ∧ Below w.heap.size W6 W3 ∧ W3.heap.size = W6.heap.size ∧
        (∀ j, j ≠ w.heap.size + 1 → j ≠ w.heap.size + 2 → W3.heap[j]? = W6.heap[j]?)) trivial hF5.books r1 r2 (by rw [r3]; rfl) ?_).mono ?_
    · have HW6 := Lib.hid hW6
      have HP6 := Lib.hid p6
      have HN6 := Lib.hid n6
      have HB6 := Lib.hid b6
      have c0 : W6.cell? ⟨w.heap.size, 0, none⟩ = some (.int .i64 (p : Int)) := by simp [World.cell?, p6]
      have z1 : W6.frozen? ⟨w.heap.size + 1, 0, none⟩ = false := frozen_of_row W6 _ 0 _ _ n6
      have z2 : W6.frozen? ⟨w.heap.size + 1 + 1, 0, none⟩ = false := frozen_of_row W6 _ 0 _ _ b6
      have c1 : W6.cell? ⟨w.heap.size + 1, 0, none⟩ = some (.int .i64 ((findUp p l k).1 : Int)) := by simp [World.cell?, n6]
      have c2 : W6.cell? ⟨w.heap.size + 1 + 1, 0, none⟩ = some (.int .i64 ((findUp p l k).2 : Int)) := by simp [World.cell?, b6]
      have L6 := Lib.hid (Array.getElem?_eq_some_iff.1 b6).1
      have HF : Hid (findUp p l (k + 1) = if startL l k ≤ p then (k, startL l k) else findUp p l k) := Lib.hid rfl
      clear hW6 ho6 hz6 p6 n6 b6 hF5 h0 hb05 hz5 hS hS3 hXW hF0 hwW hVW hBk hW hP0 hP1 hP2 hLV hA3 hzV hzW r1 r2 r3
      subst hr
      generalize findUp p l (k + 1) = F2 at *
      generalize findUp p l k = F1 at *
      generalize startL l k = st at *
      by_cases hle : st ≤ p
      · have hF2 : F2 = (k, st) := by rw [HF.out, if_pos hle]
        subst hF2
        gi_wp2_with fail
        refine ⟨KeepsOthers.refl _, ?_⟩
        rw [HW6.out]
        clear HW6
        gi_wp2_with fail
        have e1 := heap_setCell_same W6 (w.heap.size + 1) 0 _ _ (.int .i64 (k : Int)) HN6.out
        have e2 : (W6.setCell ⟨w.heap.size + 1, 0, none⟩ (.int .i64 (k : Int))).heap[w.heap.size + 1 + 1]? = _ := (heap_setCell_other W6 ⟨w.heap.size + 1, 0, none⟩ _ _ (by simp)).trans HB6.out
        refine ⟨(KeepsOthers.setCell _ _ _).trans (KeepsOthers.setCell _ _ _), ?_, ?_, ?_, fun j hj1 hj2 => ?_⟩
        · refine (heap_setCell_other _ _ _ _ (by simp)).trans (e1.trans ?_)
          simp
        · refine (heap_setCell_same _ (w.heap.size + 1 + 1) 0 _ _ _ e2).trans ?_
          simp
        · exact ((Below.refl _ _).setCell (p := ⟨w.heap.size + 1, 0, none⟩) (by simp) _).setCell (p := ⟨w.heap.size + 1 + 1, 0, none⟩) (by simp; omega) _
        · exact (heap_setCell_other _ _ _ _ hj2).trans (heap_setCell_other _ _ _ _ hj1)
      · have hF2 : F2 = F1 := by rw [HF.out, if_neg hle]
        subst hF2
        gi_wp2_with fail
        refine ⟨KeepsOthers.refl _, ?_⟩
        rw [HW6.out]
        clear HW6
        gi_wp2_with fail
        exact ⟨KeepsOthers.refl _, HN6.out, HB6.out, Below.refl _ _⟩
    · rintro e W' ⟨rfl, hB', W3, hB3, rfl, hn3, hb3, hlow3, hz3, hk3⟩
      have hoP : ∀ j, j ≠ w.heap.size + 4 + 1 → (W3.putObj (w.heap.size + 4 + 1) (.loop r)).heap[j]? = W3.heap[j]? := fun j hj => World.putObj_heap_other hj
      have hbP : Below w.heap.size W3 (W3.putObj (w.heap.size + 4 + 1) (.loop r)) := ⟨rfl, rfl, rfl, by simp [World.putObj], fun k hk => hoP k (by omega)⟩
      have hb56 : Below w.heap.size W5 W6 := by rw [← hW6]; exact ⟨rfl, rfl, rfl, by simp [World.putObj], fun k hk => World.putObj_heap_other (show k ≠ w.heap.size + 4 + 1 by omega)⟩
      refine ⟨rfl, ⟨((hF5.low.trans hb56).trans hlow3).trans hbP, (hoP _ (by omega)).trans ((hk3 _ (by omega) (by omega)).trans p6), (hoP _ (by omega)).trans hn3, (hoP _ (by omega)).trans hb3, hB'⟩, ?_, fun j hj1 hj2 => ?_⟩
      · simp [World.putObj]; omega
      · exact (hoP j (by omega)).trans ((hk3 j (by omega) (by omega)).trans (ho6 j (by omega)))
  · rintro e W' ⟨hv, hF⟩
    refine ⟨hv, hF.books, ?_⟩
    have hput : ∀ j, j ≠ w.heap.size + 4 + 1 → (W'.putObj (w.heap.size + 4 + 1) (.loop { r with state := .exhausted })).heap[j]? = W'.heap[j]? := fun j hj => World.putObj_heap_other hj
    have hbP : Below w.heap.size W' (W'.putObj (w.heap.size + 4 + 1) (.loop { r with state := .exhausted })) := ⟨rfl, rfl, rfl, by simp [World.putObj], fun k hk => hput k (by omega)⟩
    have hD8 := (hput (w.heap.size + 4) (by omega)).trans hF.books.calls
    have hn8 := (hput (w.heap.size + 1) (by omega)).trans hF.num
    have hb8 := (hput (w.heap.size + 2) (by omega)).trans hF.beg
    have HB8 := Lib.hid (hF.low.trans hbP)
    generalize W'.putObj (w.heap.size + 4 + 1) (.loop { r with state := .exhausted }) = W8 at *
    have c8 : W8.cell? ⟨w.heap.size + 1, 0, none⟩ = some (.int .i64 ((findUp p l l.length).1 : Int)) := by simp [World.cell?, hn8]
    have d8 : W8.cell? ⟨w.heap.size + 1 + 1, 0, none⟩ = some (.int .i64 ((findUp p l l.length).2 : Int)) := by simp [World.cell?, hb8]
    clear hput hbP hF hS3 hXW hF0 hwW hVW hr hBk hW hP0 hP1 hP2 hLV hA3 hS
    go_wp2_with fail
    go_region
    go_wp2_with fail
    refine ⟨by simp, .inl ⟨_, _, rfl, run_takeDeferred hD8, ?_⟩⟩
    refine ⟨_, results_tmp2 rfl _ _ _, rfl, ?_⟩
    exact HB8.out.drew.trans ⟨rfl, rfl, rfl, by simp [World.putObj], fun k hk => World.putObj_heap_other (show k ≠ w.heap.size + 4 by omega)⟩
end Go.Proofs.YtflpihedhccdfaaGreatDoor
