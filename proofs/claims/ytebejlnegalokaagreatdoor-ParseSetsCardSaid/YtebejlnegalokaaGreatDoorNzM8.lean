/-
  XNdBe, turned: what this seat needs of it.
-/
import Derived.Test.YtebejlnegalokaaGreatDoorProg
import Derived.Test.YtebejlnegalokaaGreatDoorReg
import Derived.WalkKit
import Derived.WalkSpells
import Derived.WalkLawsBesides
import Derived.Lib.Hide
import Derived.Lib.MinMax
import Derived.Deep.QuietTactic
import Derived.BigQuiet
import Derived.OwnWalk
import Derived.Deep.AppendLies
import Derived.KernelRfl
import Derived.WalkKit
import Derived.Test.YtebejlnegalokaaGreatDoorBytes
import Derived.Laws.OwnMore
import Derived.Test.YtebejlnegalokaaGreatDoorMapI
import Derived.Deep.RegionWith
import Derived.Deep.CutBlock
import Derived.Deep.OwnRows
import Derived.LaidEql
import Derived.Stop.Asserts
import Derived.RowKitTokens
import Derived.Shelf.Strings.Builder1
import Derived.Shelf.Small.Strs
import Derived.Shelf.Strings.BuilderF
import Derived.Shelf.Strings.BuilderK
import Derived.Shelf.Strconv.Itoa0
import Derived.Shelf.Strconv.Itoa1
import Derived.Shelf.LaysM
import Derived.Shelf.Strconv.Itoa2
import Derived.Shelf.Strconv.Itoa3
import Derived.Shelf.Strings.Search1
import Derived.Lib.FrozenHead2
import Derived.Laws.IdiomStrings
import Derived.Lib.MinMax
import Derived.Maps.AppendAt
import Derived.Lib.Builder
import Derived.OneCell
import Derived.Test.YtebejlnegalokaaGreatDoorRegZ
import Derived.Deep.Upon
import Derived.Laws.CopyOwn
import Derived.Deep.QuietTactic
import Derived.BigQuiet
import Derived.RangeFuncNested
import Derived.RangeFuncBound
import Derived.RangeFuncCalls
import Derived.RangeFuncLeaves
import Derived.RangeFuncBox
import Derived.OwnWalkIn
import Derived.TacticsInMore
import Derived.LoopNIn
import Derived.LoopIn
import Derived.Deep.RegionLaw
import Derived.Deep.Cut
import Derived.Test.YtebejlnegalokaaGreatDoorRegIn
import Derived.Test.YtebejlnegalokaaGreatDoorJoint
import Derived.Test.YtebejlnegalokaaGreatDoorPaLay
import Derived.Test.YtebejlnegalokaaGreatDoorNzM7
set_option linter.unusedSimpArgs false
set_option linter.unusedVariables false
namespace Go.Proofs.YtebejlnegalokaaGreatDoor.Nz
open Go.RowKit
attribute [local go_sem] Oper.semAt_some
def placesAt (t : List Nd) (i : Nat) : List Nat := placesF t i i
theorem placesF_more {t : List Nd} (h : nodesOk 0 t = true) : ∀ (n f i : Nat), i < n → i ≤ f → i < t.length → placesF t f i = placesAt t i
  | 0, _, i, h1, _, _ => by omega
  | n + 1, f, i, h1, h2, h3 => by
    cases f with
    | zero =>
      obtain rfl : i = 0 := by omega
      rfl
    | succ f =>
      cases hi : i with
      | zero =>
        subst hi
        have g := List.getElem?_eq_getElem h3
        have hk : (nodeAt t 0).kids = [] := by
          cases hks : (nodeAt t 0).kids with
          | nil => rfl
          | cons k ks =>
            have := nodes_kid h h3 (k := k) (by rw [hks]; exact List.mem_cons_self)
            omega
        show (nodeAt t 0).kids.flatMap (fun k => placesF t f k.toNat) ++ [0] = [0]
        rw [hk]
        rfl
      | succ j =>
        subst hi
        show (nodeAt t (j + 1)).kids.flatMap (fun k => placesF t f k.toNat) ++ [j + 1] = (nodeAt t (j + 1)).kids.flatMap (fun k => placesF t j k.toNat) ++ [j + 1]
        rw [flat_congr (g := fun k => placesF t j k.toNat) (fun k hk => by
          have := nodes_kid h h3 hk
          rw [placesF_more h n f k.toNat (by omega) (by omega) (by omega), placesF_more h n j k.toNat (by omega) (by omega) (by omega)])]
theorem placesAt_eq {t : List Nd} (h : nodesOk 0 t = true) {i : Nat} (hi : i < t.length) {x : Nd} (hx : t[i]? = some x) : placesAt t i = x.kids.flatMap (fun k => placesAt t k.toNat) ++ [i] := by
  have h1 : placesF t (i + 1) i = placesAt t i := placesF_more h (i + 1) (i + 1) i (by omega) (by omega) hi
  rw [← h1]
  show (nodeAt t i).kids.flatMap (fun k => placesF t i k.toNat) ++ [i] = _
  rw [nodeAt_some hx, flat_congr (g := fun k => placesAt t k.toNat) (fun k hk => by
    have := nodes_kid h hi (k := k) (by rw [nodeAt_some hx]; exact hk)
    rw [placesF_more h i i k.toNat (by omega) (by omega) (by omega)])]
/-- Blocks from n on stand as they stood. -/
def Above (n : Nat) (W W' : World) : Prop := W.heap.size ≤ W'.heap.size ∧ ∀ k, n ≤ k → k < W.heap.size → W'.heap[k]? = W.heap[k]?
theorem leaves_marks {F : Fence} {n : Nat} {P : Program} {fn : Func} {tmps : Array Value} {R : Ending → World → Prop} {B : Nat} : ∀ (ds : List Nat) (W : World), ds.Nodup → (∀ D ∈ ds, B ≤ D ∧ W.heap[D]? = some (.deferred (some []))) →
    (∀ W', Below B W W' → ∃ v, (results fn tmps).run P W' = .ok v W' ∧ R (.returned v) W') → LeavesInM F n P fn tmps R (ds.map fun D => { target := .collected D, args := #[] }) .returning W
  | [], W, _, _, h => h W (Below.refl _ _)
  | D :: ds, W, hn, hd, h => by
    obtain ⟨h1, h2⟩ := hd D List.mem_cons_self
    rw [List.nodup_cons] at hn
    refine ⟨by simp, .inl ⟨D, _, rfl, run_takeDeferred h2, leaves_marks (B := B) ds _ hn.2 (fun D' hD' => ?_) (fun W' hW' => h W' ?_)⟩⟩
    · obtain ⟨h3, h4⟩ := hd D' (List.mem_cons_of_mem _ hD')
      refine ⟨h3, (World.putObj_heap_other (fun e => hn.1 (by first | (rw [← e]; exact hD') | (rw [e]; exact hD')))).trans h4⟩
    · exact (show Below B W (W.putObj D (.deferred none)) from ⟨rfl, rfl, rfl, by simp [World.putObj], fun k hk => World.putObj_heap_other (show k ≠ D by omega)⟩).trans hW'
/-- What the caller's state bears: what lay below lies there; it abides what the iterator does. -/
structure Bears (w0 : World) (n1 : Nat) (J : List Nat → World → Prop) : Prop where
  low : ∀ pre W, J pre W → Below w0.heap.size w0 W
  stays : ∀ pre W W', J pre W → Below n1 W W' → J pre W'
  size : ∀ pre W, J pre W → n1 ≤ W.heap.size
/-- A round: it goes on. -/
def Rounds (l0 n1 : Nat) (J : List Nat → World → Prop) : Prop := ∀ (n : Nat) (pre : List Nat) (x : Nat) (W : World), J pre W →
  YieldAt Fence.wide n Tryz.prog l0 #[.int .i64 (x : Int)] W fun e W' => e = .returned (.bool true) ∧ J (pre ++ [x]) W' ∧ KeepsOthers W W' ∧ Above n1 W W'
theorem below_any (T at_ : Nat) (w : World) : Calls Tryz.prog 36 #[.pointer (some ⟨T, 0, none⟩), .int .i64 (at_ : Int)] w fun e w' =>
    e = .returned (.func (.func 60) #[] #[.pointer (some ⟨w.heap.size, 0, none⟩), .pointer (some ⟨w.heap.size + 1, 0, none⟩)]) ∧
      w' = (w.alloc (.cells #[.pointer (some ⟨T, 0, none⟩)] 61)).alloc (.cells #[.int .i64 (at_ : Int)] 3) := by
  go_enter Tryz.func36, Tryz.ntmps36
  go_wp2_with fail
  go_ret
  exact ⟨rfl, rfl⟩
theorem keeps_below {a W W' : World} (h : KeepsOthers a W) (hb : Below a.heap.size W W') : KeepsOthers a W' :=
  ⟨Nat.le_trans h.size hb.size, fun k o hk ho => (hb.block k (Array.getElem?_eq_some_iff.1 hk).1).trans (h.same k o hk ho)⟩
theorem below_put {n l : Nat} {W : World} {o : Obj} (h : n ≤ l) : Below n W (W.putObj l o) := ⟨rfl, rfl, rfl, by simp [World.putObj], fun k hk => World.putObj_heap_other (show k ≠ l by omega)⟩
/-- What a frame of the iterator's holds of its own, a loop within it running. -/
structure Frame1 (w : World) (l0 T tb ab l1 D1 : Nat) (k : Int) (ds : List Nat) (r : Loop) (W : World) : Prop where
  keeps : KeepsOthers w W
  yb : W.heap[w.heap.size]? = some (.cells #[.func (.yield l0) #[] #[]] 81 (0, 0))
  ob : W.heap[w.heap.size + 1]? = some (.cells #[.bool true] 4 (0, 0))
  tb : W.heap[tb]? = some (.cells #[.pointer (some ⟨T, 0, none⟩)] 61 (0, 0))
  ab : W.heap[ab]? = some (.cells #[.int .i64 k] 3 (0, 0))
  ds : ∀ D ∈ ds, w.heap.size ≤ D ∧ W.heap[D]? = some (.deferred (some []))
  books : Books l1 D1 r W
theorem heap_lt {W : World} {k : Nat} {o : Obj} (h : W.heap[k]? = some o) : k < W.heap.size := (Array.getElem?_eq_some_iff.1 h).1
/-- Blocks that stand at W0 lie in W' as they lay. -/
theorem Frame1.kept {w : World} {l0 T tb ab l1 D1 : Nat} {k : Int} {ds : List Nat} {r : Loop} {W0 W W' : World} (h0 : Frame1 w l0 T tb ab l1 D1 k ds r W0) (h : Frame1 w l0 T tb ab l1 D1 k ds r W) (hw : w.heap.size ≤ W0.heap.size) (hs : W.heap.size ≤ W'.heap.size)
    (hb : ∀ j, w.heap.size ≤ j → j < W0.heap.size → W'.heap[j]? = W.heap[j]?) (hk : KeepsOthers w W') (htb : w.heap.size ≤ tb) (hab : w.heap.size ≤ ab) (hl : w.heap.size ≤ l1) (hD : w.heap.size ≤ D1) : Frame1 w l0 T tb ab l1 D1 k ds r W' :=
  ⟨hk, (hb _ (Nat.le_refl _) (heap_lt h0.yb)).trans h.yb, (hb _ (by omega) (heap_lt h0.ob)).trans h.ob, (hb _ htb (heap_lt h0.tb)).trans h.tb, (hb _ hab (heap_lt h0.ab)).trans h.ab,
    fun D hD' => ⟨(h.ds D hD').1, (hb D (h.ds D hD').1 (heap_lt (h0.ds D hD').2)).trans (h.ds D hD').2⟩,
    ⟨(hb _ hl (heap_lt h0.books.lp)).trans h.books.lp, (hb _ hD (heap_lt h0.books.calls)).trans h.books.calls, h.books.ne⟩⟩
set_option maxRecDepth 100000 in
set_option maxHeartbeats 8000000 in
theorem below1_any (t : List Nd) (hok : nodesOk 0 t = true) (hI : IntN t) (hn : t.length ≤ 1000000) (A : Option Addr) (c T : Nat) (w0 : World) (hT0 : TreeAt w0 T A t.length c) (hH0 : HoldsN w0 A t) : ∀ (m i : Nat), i < m → i < t.length → ∀ (l0 tb ab : Nat) (J : List Nat → World → Prop) (pre : List Nat) (w : World),
    Bears w0 w.heap.size J → Rounds l0 w.heap.size J → (∀ pre W, J pre W → W.cell? ⟨tb, 0, none⟩ = some (.pointer (some ⟨T, 0, none⟩)) ∧ W.cell? ⟨ab, 0, none⟩ = some (.int .i64 (i : Int))) → J pre w →
    Calls Tryz.prog 60 #[.func (.yield l0) #[] #[], .pointer (some ⟨tb, 0, none⟩), .pointer (some ⟨ab, 0, none⟩)] w fun e w' => (∃ v, e = .returned v) ∧ J (pre ++ placesAt t i) w' ∧ KeepsOthers w w' := by
  intro m
  induction m with
  | zero => intro i h1; omega
  | succ m ih =>
    intro i h1 hi l0 tb ab J pre w hB hR hbx hJ
    have HIH := Lib.hid ih
    clear ih
    have g := List.getElem?_eq_getElem hi
    have hmem := List.getElem_mem hi
    have HPL := Lib.hid (placesAt_eq hok hi g)
    have hkd := fun k hk => nodes_kid hok hi (k := k) hk
    rw [nodeAt_some g] at hkd
    obtain ⟨z1, z2, z3, z4⟩ := hI _ hmem
    generalize hx : t[i] = x at *
    obtain ⟨b, off, rfl, c0, c1, B, c2, c3, hK, hc⟩ := hH0 i x g
    have t0 : w0.cell? ⟨T, 0, none⟩ = some (.slice (some ⟨b, off, none⟩) t.length c) := by unfold TreeAt at hT0; simp [World.cell?, hT0]
    have HC3 := Lib.hid c3
    have HT0 := Lib.hid t0
    have HKx := Lib.hid hK
    have HKD := Lib.hid hkd
    have HB := Lib.hid hB
    have HR := Lib.hid hR
    have HBX := Lib.hid hbx
    refine calls_of_wp_marks 3 Tryz.func60 rfl ?_
    simp only [Tryz.ntmps60, List.size_toArray, List.length_cons, List.length_nil, Nat.reduceAdd, Nat.reduceSub, Array.replicate_succ, Array.replicate_zero, List.push_toArray, List.append_toArray, List.nil_append, List.cons_append]
    have hb0 : Below w.heap.size w ((w.alloc (.cells #[.func (.yield l0) #[] #[]] 81)).alloc (.cells #[.bool true] 4)) := ((Below.refl _ _).alloc (Nat.le_refl _) _).alloc (by simp) _
    have hyb0 : ((w.alloc (.cells #[.func (.yield l0) #[] #[]] 81)).alloc (.cells #[.bool true] 4)).heap[w.heap.size]? = some (.cells #[.func (.yield l0) #[] #[]] 81 (0, 0)) :=
      (((Below.refl _ (w.alloc (.cells #[.func (.yield l0) #[] #[]] 81))).alloc (Nat.le_refl _) _).block w.heap.size (by simp)).trans (heap_alloc_new _ _)
    have hob0 : ((w.alloc (.cells #[.func (.yield l0) #[] #[]] 81)).alloc (.cells #[.bool true] 4)).heap[w.heap.size + 1]? = some (.cells #[.bool true] 4 (0, 0)) := by
      have h := heap_alloc_new (w.alloc (.cells #[.func (.yield l0) #[] #[]] 81)) (.cells #[.bool true] 4)
      rwa [World.size_alloc] at h
    have hz0 : ((w.alloc (.cells #[.func (.yield l0) #[] #[]] 81)).alloc (.cells #[.bool true] 4)).heap.size = w.heap.size + 2 := by simp
    clear hB hR hbx hK hkd c0 c1 c3 t0 hI hok z1 z3 z4 hmem
    go_wp2_with fail
    go_step3
    go_wp2_with fail
    go_step3
    generalize (w.alloc (.cells #[.func (.yield l0) #[] #[]] 81)).alloc (.cells #[.bool true] 4) = w2 at *
    have HJ2 := Lib.hid (HB.out.stays _ _ _ hJ hb0)
    have hlow := HB.out.low _ _ HJ2.out
    obtain ⟨x1, x2⟩ := HBX.out _ _ HJ2.out
    have c3 := (hlow.cell (p := ⟨b, _, none⟩) (cell_lt HC3.out)).trans HC3.out
    have t2 := (hlow.cell (p := ⟨T, 0, none⟩) (cell_lt HT0.out)).trans HT0.out
    generalize hks : x.kids = ks at *
    go_wp2_with fail
    go_region
    go_wp2_with fail
    have HJ3 := Lib.hid (HB.out.stays _ _ _ HJ2.out (show Below w.heap.size w2 w2.drew from (Below.refl _ _).drew))
    have hyb3 : w2.drew.heap[w.heap.size]? = some (.cells #[.func (.yield l0) #[] #[]] 81 (0, 0)) := hyb0
    have hob3 : w2.drew.heap[w.heap.size + 1]? = some (.cells #[.bool true] 4 (0, 0)) := hob0
    have hz3 : w.heap.size + 2 ≤ w2.drew.heap.size := by show w.heap.size + 2 ≤ w2.heap.size; omega
    have hk3 : KeepsOthers w w2.drew := keeps_below (KeepsOthers.refl _) (hb0.drew)
    generalize w2.drew = w3 at *
    clear x1 x2 c3 t2 hlow hyb0 hob0 hz0 hb0 HJ2
    refine wp_loop (fun a wr => ∃ (q : Nat) (u5 u6 u7 u18 u19 u20 u21 u22 u23 u24 u25 u26 u27 u28 u29 u30 u31 u32 u33 u34 : Value) (ds : List Nat),
        a = { tmps := #[.func (.yield l0) #[] #[], .pointer (some ⟨tb, 0, none⟩), .pointer (some ⟨ab, 0, none⟩), .pointer (some ⟨w.heap.size, 0, none⟩), .pointer (some ⟨w.heap.size + 1, 0, none⟩), u5, u6, u7, .pointer (some ⟨T, 0, none⟩), .pointer (some ⟨T, 0, none⟩), .pointer (some ⟨T, 0, none⟩), .slice (some ⟨b, off, none⟩) t.length c, .int .i64 (i : Int), .pointer (some ⟨b, off + i * 3, none⟩), .pointer (some ⟨b, off + i * 3 + 2, none⟩), .slice B ks.length c2, .int .i64 (ks.length : Int), .int .i64 (q : Int), u18, u19, u20, u21, u22, u23, u24, u25, u26, u27, u28, u29, u30, u31, u32, u33, u34],
              defers := ds.map fun D => { target := .collected D, args := #[] } } ∧
        q ≤ ks.length ∧ ds.Nodup ∧ (∀ D ∈ ds, w.heap.size ≤ D ∧ wr.heap[D]? = some (.deferred (some []))) ∧ J (pre ++ (ks.take q).flatMap (fun k => placesAt t k.toNat)) wr ∧ KeepsOthers w wr ∧
        wr.heap[w.heap.size]? = some (.cells #[.func (.yield l0) #[] #[]] 81 (0, 0)) ∧ wr.heap[w.heap.size + 1]? = some (.cells #[.bool true] 4 (0, 0)) ∧ w.heap.size + 2 ≤ wr.heap.size)
      (fun a _ => ks.length - (intOf (a.tmps.getD 17 undef)).toNat) ⟨0, _, _, _, _, _, _, _, _, _, _, _, _, _, _, _, _, _, _, _, _, [], rfl, Nat.zero_le _, List.nodup_nil, (fun D hD => by simp at hD), by rw [List.take_zero, List.flatMap_nil, List.append_nil]; exact HJ3.out, hk3, hyb3, hob3, hz3⟩ ?_
    rintro a wr ⟨q, u5, u6, u7, u18, u19, u20, u21, u22, u23, u24, u25, u26, u27, u28, u29, u30, u31, u32, u33, u34, ds, rfl, hq, hnd, hds, hJr, hkr, hyb, hob, hzr⟩
    clear HJ3 hyb3 hob3 hz3 hk3
    by_cases hlt : q < ks.length
    · have g2 := List.getElem?_eq_getElem hlt
      have hmem2 := List.getElem_mem hlt
      obtain ⟨hk0, hk9⟩ := HKD.out _ hmem2
      have HFM : Hid ((ks.take (q + 1)).flatMap (fun k => placesAt t k.toNat) = (ks.take q).flatMap (fun k => placesAt t k.toNat) ++ placesAt t ks[q].toNat) := Lib.hid (by rw [List.take_succ_eq_append_getElem hlt, List.flatMap_append]; simp)
      obtain ⟨b2, off2, rfl, f0⟩ := HKx.out q _ g2
      have hlow := HB.out.low _ _ hJr
      have f1 := (hlow.cell (p := ⟨b2, _, none⟩) (cell_lt f0)).trans f0
      obtain ⟨x1, x2⟩ := HBX.out _ _ hJr
      have hkk : ((ks[q].toNat : Nat) : Int) = ks[q] := by omega
      have hkt : ks[q].toNat < m := by omega
      have hkl : ks[q].toNat < t.length := by omega
      have HBL := Lib.hid (fun W => below_any T ks[q].toNat W)
      have HIK := Lib.hid (HIH.out ks[q].toNat hkt hkl)
      rw [hkk] at HBL
      generalize ks[q] = k at *
      clear f0 g2 hmem2 hlow
      go_wp2_with fail
      refine (HBL.out _).mono ?_
      rintro e w4 ⟨rfl, rfl⟩
      go_wp2_with fail
      have hbV : Below w.heap.size wr ((wr.alloc (.cells #[.pointer (some ⟨T, 0, none⟩)] 61)).alloc (.cells #[.int .i64 k] 3)) := ((Below.refl w.heap.size wr).alloc (by omega) _).alloc (by simp; omega) _
      have hlV : Below wr.heap.size wr ((wr.alloc (.cells #[.pointer (some ⟨T, 0, none⟩)] 61)).alloc (.cells #[.int .i64 k] 3)) := ((Below.refl _ wr).alloc (Nat.le_refl _) _).alloc (by simp) _
      have htV : ((wr.alloc (.cells #[.pointer (some ⟨T, 0, none⟩)] 61)).alloc (.cells #[.int .i64 k] 3)).heap[wr.heap.size]? = some (.cells #[.pointer (some ⟨T, 0, none⟩)] 61 (0, 0)) :=
        (((Below.refl _ (wr.alloc (.cells #[.pointer (some ⟨T, 0, none⟩)] 61))).alloc (Nat.le_refl _) _).block wr.heap.size (by simp)).trans (heap_alloc_new _ _)
      have haV : ((wr.alloc (.cells #[.pointer (some ⟨T, 0, none⟩)] 61)).alloc (.cells #[.int .i64 k] 3)).heap[wr.heap.size + 1]? = some (.cells #[.int .i64 k] 3 (0, 0)) := by
        have h := heap_alloc_new (wr.alloc (.cells #[.pointer (some ⟨T, 0, none⟩)] 61)) (.cells #[.int .i64 k] 3)
        rwa [World.size_alloc] at h
      have hzV : ((wr.alloc (.cells #[.pointer (some ⟨T, 0, none⟩)] 61)).alloc (.cells #[.int .i64 k] 3)).heap.size = wr.heap.size + 2 := by simp
      generalize (wr.alloc (.cells #[.pointer (some ⟨T, 0, none⟩)] 61)).alloc (.cells #[.int .i64 k] 3) = V at *
      have HJV := Lib.hid (HB.out.stays _ _ _ hJr hbV)
      refine wpIn_wide.1 (range_joint (n := 3) (F := Fence.wide) rfl (by omega) (gf := 60) (lb := #[.pointer (some ⟨wr.heap.size, 0, none⟩), .pointer (some ⟨wr.heap.size + 1, 0, none⟩)]) rfl trivial (enters_of Tryz.func60 (by kernel_rfl) rfl) ?_)
      intro fn r W hfn hr hW hBk
      have hVW : Below V.heap.size V W := by rw [hW]; exact ((Below.refl _ V).alloc (Nat.le_refl _) _).alloc (by simp) _
      have hzW : W.heap.size = V.heap.size + 2 := by rw [hW]; simp
      have hF0 : Frame1 w l0 T wr.heap.size (wr.heap.size + 1) (V.heap.size + 1) V.heap.size k ds r W :=
        ⟨keeps_below hkr (hbV.trans (hVW.mono (by omega))), (hVW.block _ (by omega)).trans ((hlV.block _ (by omega)).trans hyb), (hVW.block _ (by omega)).trans ((hlV.block _ (by omega)).trans hob), (hVW.block _ (by omega)).trans htV, (hVW.block _ (by omega)).trans haV,
          fun D hD => ⟨(hds D hD).1, (hVW.block D (by have := heap_lt (hds D hD).2; omega)).trans ((hlV.block D (heap_lt (hds D hD).2)).trans (hds D hD).2)⟩, hBk⟩
      have hJW : J (pre ++ (ks.take q).flatMap (fun k => placesAt t k.toNat) ++ []) W := by rw [List.append_nil]; exact HB.out.stays _ _ _ HJV.out (hVW.mono (by omega))
      refine callsIn_wide.2 ((HIK.out (V.heap.size + 1) wr.heap.size (wr.heap.size + 1) (fun pre' Wx => J (pre ++ (ks.take q).flatMap (fun k => placesAt t k.toNat) ++ pre') Wx ∧ Frame1 w l0 T wr.heap.size (wr.heap.size + 1) (V.heap.size + 1) V.heap.size k ds r Wx ∧ W.heap.size ≤ Wx.heap.size) [] W ?hBears ?hRounds ?hBoxes ⟨hJW, hF0, Nat.le_refl _⟩).mono ?_)
      case hBears =>
        refine ⟨fun p Wx h => HB.out.low _ _ h.1, fun p Wx Wy h hb => ⟨HB.out.stays _ _ _ h.1 (hb.mono (by omega)), hF0.kept h.2.1 (by omega) hb.size (fun j _ hj => hb.block j hj) (keeps_below h.2.1.keeps (hb.mono (by omega))) (by omega) (by omega) (by omega) (by omega), Nat.le_trans h.2.2 hb.size⟩, fun p Wx h => h.2.2⟩
      case hBoxes =>
        intro p Wx h
        refine ⟨by simp [World.cell?, h.2.1.tb], ?_⟩
        rw [hkk]
        simp [World.cell?, h.2.1.ab]
      case hRounds =>
        intro n5 pre' x' W5 h5
        obtain ⟨hJ5, hF5, hz5⟩ := h5
        have h1 : r.state = .ready := by rw [hr]
        have h2 : r.pending = none := by rw [hr]
        have h3 : r.params.size = 1 := by rw [hr]; rfl
        obtain ⟨W6, hW6⟩ : ∃ W6, W5.putObj (V.heap.size + 1) (.loop { r with state := .busy }) = W6 := ⟨_, rfl⟩
        have hb6 : Below w.heap.size W5 W6 := by rw [← hW6]; exact below_put (by omega)
        have hz6 : W6.heap.size = W5.heap.size := by rw [← hW6]; simp [World.putObj]
        have ho6 : ∀ j, j ≠ V.heap.size + 1 → W6.heap[j]? = W5.heap[j]? := fun j hj => by rw [← hW6]; exact World.putObj_heap_other hj
        have hl6 : W6.heap[V.heap.size + 1]? = some (.loop { r with state := .busy }) := by rw [← hW6]; exact World.putObj_heap_same (heap_lt hF5.books.lp)
        have hJ6 := HB.out.stays _ _ _ hJ5 hb6
        have hyb6 : W6.heap[w.heap.size]? = some (.cells #[.func (.yield l0) #[] #[]] 81 (0, 0)) := (ho6 _ (by omega)).trans hF5.yb
        have hob6 : W6.heap[w.heap.size + 1]? = some (.cells #[.bool true] 4 (0, 0)) := (ho6 _ (by omega)).trans hF5.ob
        refine (round_joint (F := Fence.wide) (n := n5) (args := #[.int .i64 (x' : Int)]) (Post := fun W3 => J (pre ++ (ks.take q).flatMap (fun k => placesAt t k.toNat) ++ (pre' ++ [x'])) W3 ∧ KeepsOthers W6 W3 ∧ (∀ j, w.heap.size ≤ j → j < W5.heap.size → W3.heap[j]? = W6.heap[j]?) ∧ W5.heap.size ≤ W3.heap.size) trivial hF5.books h1 h2 (by rw [h3]; rfl) ?_).mono ?_
        · obtain ⟨fn7, tmps7, assign7, body7, hy, hRd⟩ := HR.out (n5 - 1) _ x' W6 hJ6
          have HRo := Lib.hid hRd
          have cyb : W6.cell? ⟨w.heap.size, 0, none⟩ = some (.func (.yield l0) #[] #[]) := by simp [World.cell?, hyb6]
          have HW6 := Lib.hid hW6
          have HJ5 := Lib.hid hJ5
          have HZ6 := Lib.hid hz6
          have HO6 := Lib.hid hob6
          have HF0 := Lib.hid hF0
          clear hRd hW6 h1 h2 h3 hF5 hJ5 hJ6 hJW hF0 hl6 ho6 hyb6 hob6 hb6 hz6 hBk hVW hzW hW
          subst hr
          gi_wp2_with fail
          refine ⟨KeepsOthers.refl _, ?_⟩
          rw [HW6.out]
          gi_wp2_with fail
          refine ⟨fun h => absurd h (by decide), RoundIn.mono (F := Fence.wide.inRound _) HRo.out ?_⟩
          rintro e W7 ⟨rfl, hJ7, hk7, hA7⟩
          have hob7 : W7.heap[w.heap.size + 1]? = some (.cells #[.bool true] 4 (0, 0)) := (hA7.2 _ (by omega) (heap_lt HO6.out)).trans HO6.out
          have cob : W7.cell? ⟨w.heap.size + 1, 0, none⟩ = some (.bool true) := by simp [World.cell?, hob7]
          have zob : W7.frozen? ⟨w.heap.size + 1, 0, none⟩ = false := frozen_of_row W7 _ 0 _ _ hob7
          have hob8 : (W7.setCell ⟨w.heap.size + 1, 0, none⟩ (.bool true)).heap[w.heap.size + 1]? = some (.cells #[.bool true] 4 (0, 0)) := by
            rw [heap_setCell_same W7 _ 0 _ _ _ hob7]
            simp
          have hb8 : Below w.heap.size W7 (W7.setCell ⟨w.heap.size + 1, 0, none⟩ (.bool true)) := (Below.refl _ _).setCell (p := ⟨w.heap.size + 1, 0, none⟩) (by show w.heap.size ≤ w.heap.size + 1; omega) _
          have HP8 : Hid (J (pre ++ (ks.take q).flatMap (fun k => placesAt t k.toNat) ++ (pre' ++ [x'])) (W7.setCell ⟨w.heap.size + 1, 0, none⟩ (.bool true)) ∧ KeepsOthers W6 (W7.setCell ⟨w.heap.size + 1, 0, none⟩ (.bool true)) ∧ (∀ j, w.heap.size ≤ j → j < W5.heap.size → (W7.setCell ⟨w.heap.size + 1, 0, none⟩ (.bool true)).heap[j]? = W6.heap[j]?) ∧ W5.heap.size ≤ (W7.setCell ⟨w.heap.size + 1, 0, none⟩ (.bool true)).heap.size) := Lib.hid (by
            refine ⟨?_, hk7.trans (KeepsOthers.setCell _ _ _), fun j hj1 hj2 => ?_, ?_⟩
            · have h := HB.out.stays _ _ _ hJ7 hb8
              rwa [List.append_assoc] at h
            · by_cases hjo : j = w.heap.size + 1
              · subst hjo
                rw [hob8, HO6.out]
              · exact (Below.heap_setCell W7 ⟨w.heap.size + 1, 0, none⟩ _ j hjo).trans (hA7.2 j hj1 (by rw [HZ6.out]; exact hj2))
            · have h9 := hA7.1
              rw [HZ6.out] at h9
              simpa using h9)
          clear hJ7 hk7 hA7 hob7 hb8
          gi_wp2_with fail
          have h8 := HP8.out
          rw [List.append_assoc] at h8
          exact ⟨h8.2.1, h8.1, h8.2.1, h8.2.2.1, by simpa using h8.2.2.2⟩
        · rintro e W' ⟨rfl, hB', W3, hB3, rfl, hJ3, hk3, ha3, hz3⟩
          have hput : Below w.heap.size W3 (W3.putObj (V.heap.size + 1) (.loop r)) := below_put (by omega)
          have hsame : ∀ j, w.heap.size ≤ j → j < W5.heap.size → (W3.putObj (V.heap.size + 1) (.loop r)).heap[j]? = W5.heap[j]? := fun j hj1 hj2 => by
            by_cases hjl : j = V.heap.size + 1
            · subst hjl
              rw [World.putObj_heap_same (heap_lt hB3.lp), hF5.books.lp]
            · exact (World.putObj_heap_other hjl).trans ((ha3 j hj1 hj2).trans (ho6 j hjl))
          have hzP : W5.heap.size ≤ (W3.putObj (V.heap.size + 1) (.loop r)).heap.size := by simpa [World.putObj] using hz3
          have hko : KeepsOthers W5 (W3.putObj (V.heap.size + 1) (.loop r)) := ⟨hzP, fun kk o hkk ho => by
            by_cases hjl : kk = V.heap.size + 1
            · subst hjl
              rw [World.putObj_heap_same (heap_lt hB3.lp), ← hF5.books.lp]
              exact hkk
            · exact (World.putObj_heap_other hjl).trans (hk3.same kk o ((ho6 kk hjl).trans hkk) ho)⟩
          refine ⟨rfl, ⟨HB.out.stays _ _ _ hJ3 hput, hF0.kept hF5 (by omega) hzP (fun j hj1 hj2 => hsame j hj1 (by omega)) (hF5.keeps.trans hko) (by omega) (by omega) (by omega) (by omega), by omega⟩, hko, hzP, fun j hj1 hj2 => hsame j (by omega) hj2⟩
      · rintro e W' ⟨hv, ⟨hJ', hF', hz'⟩, hk'⟩
        refine ⟨hv, hF'.books, ?_⟩
        have hput : Below w.heap.size W' (W'.putObj (V.heap.size + 1) (.loop { r with state := .exhausted })) := below_put (by omega)
        have hoP : ∀ j, j ≠ V.heap.size + 1 → (W'.putObj (V.heap.size + 1) (.loop { r with state := .exhausted })).heap[j]? = W'.heap[j]? := fun j hj => World.putObj_heap_other hj
        have hzP : (W'.putObj (V.heap.size + 1) (.loop { r with state := .exhausted })).heap.size = W'.heap.size := by simp [World.putObj]
        have hJP := HB.out.stays _ _ _ hJ' hput
        rw [List.append_assoc, List.nil_append, ← HFM.out] at hJP
        have hkP := keeps_below hF'.keeps hput
        have hybP := (hoP w.heap.size (by omega)).trans hF'.yb
        have hobP := (hoP (w.heap.size + 1) (by omega)).trans hF'.ob
        have hDP := (hoP V.heap.size (by omega)).trans hF'.books.calls
        have hdsP : ∀ D ∈ ds, w.heap.size ≤ D ∧ (W'.putObj (V.heap.size + 1) (.loop { r with state := .exhausted })).heap[D]? = some (.deferred (some [])) := fun D hD => ⟨(hF'.ds D hD).1, (hoP D (fun e => by have := heap_lt (hds D hD).2; omega)).trans (hF'.ds D hD).2⟩
        have hnd2 : (V.heap.size :: ds).Nodup := by
          rw [List.nodup_cons]
          exact ⟨fun hm => by have := heap_lt (hds _ hm).2; omega, hnd⟩
        have HFIN : Hid (J (pre ++ (ks.take (q + 1)).flatMap (fun k => placesAt t k.toNat)) (W'.putObj (V.heap.size + 1) (.loop { r with state := .exhausted })) ∧ KeepsOthers w (W'.putObj (V.heap.size + 1) (.loop { r with state := .exhausted })) ∧
          (W'.putObj (V.heap.size + 1) (.loop { r with state := .exhausted })).heap[w.heap.size]? = some (.cells #[.func (.yield l0) #[] #[]] 81 (0, 0)) ∧ (W'.putObj (V.heap.size + 1) (.loop { r with state := .exhausted })).heap[w.heap.size + 1]? = some (.cells #[.bool true] 4 (0, 0)) ∧ w.heap.size + 2 ≤ (W'.putObj (V.heap.size + 1) (.loop { r with state := .exhausted })).heap.size ∧
          ∀ D ∈ V.heap.size :: ds, w.heap.size ≤ D ∧ (W'.putObj (V.heap.size + 1) (.loop { r with state := .exhausted })).heap[D]? = some (.deferred (some []))) := Lib.hid ⟨hJP, hkP, hybP, hobP, by omega, fun D hD => by
            rcases List.mem_cons.1 hD with rfl | hD
            · exact ⟨by omega, hDP⟩
            · exact hdsP D hD⟩
        generalize W'.putObj (V.heap.size + 1) (.loop { r with state := .exhausted }) = W8 at *
        have HND := Lib.hid hnd2
        clear hJP hkP hybP hobP hDP hdsP hput hoP hzP hF' hJ' hk' hz' hv hJW hF0 hnd2 hBk hVW hzW hW hr
        go_wp2_with fail
        exact ⟨⟨q + 1, _, _, _, _, _, _, _, _, _, _, _, _, _, _, _, _, _, _, _, _, V.heap.size :: ds, rfl, by omega, HND.out, HFIN.out.2.2.2.2.2, HFIN.out.1, HFIN.out.2.1, HFIN.out.2.2.1, HFIN.out.2.2.2.1, HFIN.out.2.2.2.2.1⟩, by simp [intOf]; omega⟩
    · obtain rfl : q = ks.length := by omega
      rw [List.take_of_length_le (Nat.le_refl _)] at hJr
      obtain ⟨fn, tmps, assign, body, hy, hRd⟩ := HR.out 3 _ i wr hJr
      have HRo := Lib.hid hRd
      obtain ⟨x1, x2⟩ := HBX.out _ _ hJr
      have cyb : wr.cell? ⟨w.heap.size, 0, none⟩ = some (.func (.yield l0) #[] #[]) := by simp [World.cell?, hyb]
      have cob : wr.cell? ⟨w.heap.size + 1, 0, none⟩ = some (.bool true) := by simp [World.cell?, hob]
      clear hRd
      go_upto_region 11 with fail
      refine (wpIn_wide (n := 3 + 1)).1 ?_
      gi_wp2_with fail
      refine HRo.out.mono ?_
      rintro e w4 ⟨rfl, hJ4, hk4, hA4⟩
      gi_wp2_with fail
      try rw [Exit.noGoto_normal]
      refine leaves_marks (B := w.heap.size) ds w4 hnd (fun D hD => ⟨(hds D hD).1, hk4.same D _ (hds D hD).2 rfl⟩) (fun W' hW' => ⟨_, results_none rfl _ _ _, ⟨_, rfl⟩, ?_, keeps_below (hkr.trans hk4) hW'⟩)
      rw [HPL.out, ← List.append_assoc]
      exact HB.out.stays _ _ _ hJ4 hW'
end Go.Proofs.YtebejlnegalokaaGreatDoor.Nz
/-
  XNdRo, turned: what this seat needs of it.
-/
namespace Go.Proofs.YtebejlnegalokaaGreatDoor.Nz
open Go.RowKit
set_option maxRecDepth 100000 in
set_option maxHeartbeats 4000000 in
theorem root_any (t : List Nd) (A : Option Addr) (c T : Nat) (x : Nd) (w : World) (hT : TreeAt w T A t.length c) (hH : HoldsN w A t) (hx : t[t.length - 1]? = some x) (h1 : 1 ≤ t.length) (h2 : t.length ≤ 1000000) :
    Calls Tryz.prog 34 #[.pointer (some ⟨T, 0, none⟩)] w fun e w' => ∃ B c, e = .returned (x.value B c) ∧ HoldsI w B x.kids ∧ Below w.heap.size w w' := by
  obtain ⟨b, off, rfl, c0, c1, B, c2, c3, hK, hc⟩ := hH _ x hx
  have t0 : w.cell? ⟨T, 0, none⟩ = some (.slice (some ⟨b, off, none⟩) t.length c) := by unfold TreeAt at hT; simp [World.cell?, hT]
  have hTl : T < w.heap.size := cell_lt t0
  have hbl : b < w.heap.size := cell_lt c0
  have hw4 : IntKind.i64.wrap ((t.length : Int) - 1) = (t.length : Int) - 1 := IntWalk.i64_in _ (by omega)
  have hw5 : ((t.length : Int) - 1).toNat = t.length - 1 := by omega
  have hw6 : (0 : Int) ≤ (t.length : Int) - 1 := by omega
  have hw7 : (t.length : Int) - 1 < (t.length : Int) := by omega
  have HK := Lib.hid hK
  unfold Nd.value
  clear hH hT hK hx
  go_enter Tryz.func34, Tryz.ntmps34
  go_wp2_with fail
  go_region
  go_wp2_with fail
  have hr := heap_alloc_new w (.cells #[.int .i64 x.kind, .string x.text, .slice B x.kids.length c2] 49)
  have e0 : (w.alloc (.cells #[.int .i64 x.kind, .string x.text, .slice B x.kids.length c2] 49)).drew.cell? ⟨w.heap.size, 0, none⟩ = some (.int .i64 x.kind) := by simp
  have e1 : (w.alloc (.cells #[.int .i64 x.kind, .string x.text, .slice B x.kids.length c2] 49)).drew.cell? ⟨w.heap.size, 1, none⟩ = some (.string x.text) := by simp
  have e2 : (w.alloc (.cells #[.int .i64 x.kind, .string x.text, .slice B x.kids.length c2] 49)).drew.cell? ⟨w.heap.size, 2, none⟩ = some (.slice B x.kids.length c2) := by simp
  have hbx : Below w.heap.size w (w.alloc (.cells #[.int .i64 x.kind, .string x.text, .slice B x.kids.length c2] 49)).drew := ((Below.refl _ _).alloc (Nat.le_refl _) _).drew
  generalize (w.alloc (.cells #[.int .i64 x.kind, .string x.text, .slice B x.kids.length c2] 49)).drew = W at *
  refine ⟨rfl, .agg #[.int .i64 x.kind, .string x.text, .slice B x.kids.length c2], ?_, B, c2, rfl, HK.out, hbx⟩
  have hre : Tryz.f34.results = #[.cell 2 49] := rfl
  simp only [results, hre]
  go_simp
end Go.Proofs.YtebejlnegalokaaGreatDoor.Nz
