/-
  XNdAd, turned: what this seat needs of it.
-/
import Derived.Test.YtebejlnegalokaaGreatDoorProg
import Derived.Test.YtebejlnegalokaaGreatDoorReg
import Derived.WalkKit
import Derived.WalkSpells
import Derived.WalkLawsBesides
import Derived.Lib.Hide
import Derived.Lib.MinMax
import Derived.Deep.QuietTactic
import Derived.BigQuiet
import Derived.OwnWalk
import Derived.Deep.AppendLies
import Derived.KernelRfl
import Derived.WalkKit
import Derived.Test.YtebejlnegalokaaGreatDoorBytes
import Derived.Laws.OwnMore
import Derived.Test.YtebejlnegalokaaGreatDoorMapI
import Derived.Deep.RegionWith
import Derived.Deep.CutBlock
import Derived.Deep.OwnRows
import Derived.LaidEql
import Derived.Stop.Asserts
import Derived.RowKitTokens
import Derived.Shelf.Strings.Builder1
import Derived.Shelf.Small.Strs
import Derived.Shelf.Strings.BuilderF
import Derived.Shelf.Strings.BuilderK
import Derived.Shelf.Strconv.Itoa0
import Derived.Shelf.Strconv.Itoa1
import Derived.Shelf.LaysM
import Derived.Shelf.Strconv.Itoa2
import Derived.Shelf.Strconv.Itoa3
import Derived.Shelf.Strings.Search1
import Derived.Lib.FrozenHead2
import Derived.Laws.IdiomStrings
import Derived.Lib.MinMax
import Derived.Maps.AppendAt
import Derived.Lib.Builder
import Derived.OneCell
import Derived.Test.YtebejlnegalokaaGreatDoorRegZ
import Derived.Deep.Upon
import Derived.Laws.CopyOwn
import Derived.Test.YtebejlnegalokaaGreatDoorPaLay
import Derived.Test.YtebejlnegalokaaGreatDoorNzM5
set_option linter.unusedSimpArgs false
set_option linter.unusedVariables false
namespace Go.Proofs.YtebejlnegalokaaGreatDoor.Nz
open Go.RowKit
/-- Rows of numbers stand as they stood. -/
def IntsKept (w w' : World) : Prop := ∀ (k : Nat) (cs : Array Value) (fr : Nat × Nat), w.heap[k]? = some (.cells cs tI fr) → w'.heap[k]? = some (.cells cs tI fr)
theorem IntsKept.own {w w' : World} (h : IntsKept w w') {b : Nat} {v : Value} {n : Nat} {xs : List Value} (ho : w.ownsRow b tI 1 v n xs) : w'.ownsRow b tI 1 v n xs := by
  refine ⟨ho.1, ?_⟩
  rcases ho.2 with h1 | ⟨g, cap, cur, h1, h2, h3, h4⟩
  · exact .inl h1
  · exact .inr ⟨g, cap, cur, h1, h2, h g _ _ h3, h4⟩
theorem IntsKept.trans {a b c : World} (h1 : IntsKept a b) (h2 : IntsKept b c) : IntsKept a c := fun k cs fr h => h2 k cs fr (h1 k cs fr h)
theorem IntsKept.refl (a : World) : IntsKept a a := fun _ _ _ h => h
theorem IntsKept.below {w w' : World} (h : Below w.heap.size w w') : IntsKept w w' := fun k _ _ hk => (h.block k (Array.getElem?_eq_some_iff.1 hk).1).trans hk
theorem own_row {w : World} {g n : Nat} {l : List Int} (h : w.heap[g]? = some (.cells (intCells l).toArray tI (0, 0))) (hn : l.length = n) (hl : n ≤ 1000000) : w.ownsRow g tI 1 (.slice (some ⟨g, 0, none⟩) n n) n (intCells l) := by
  have e : (intCells l).length = n := by rw [intCells_length, hn]
  refine ⟨by omega, .inr ⟨g, n, (intCells l).toArray, rfl, Nat.le_refl _, h, Nat.le_refl _, by unfold maxLen; omega, by simp [e], ?_⟩⟩
  rw [Nat.mul_one, ← e]
  simp
/-- A sum as Go's int has it. -/
def wadd (by_ k : Int) : Int := IntKind.i64.wrap (k + by_)
def movedW (by_ : Int) (t : List Nd) : List Nd := t.map fun x => { x with kids := x.kids.map (wadd by_) }
theorem movedW_eq {by_ : Int} {t : List Nd} (h1 : -1000000 ≤ by_) (h2 : by_ ≤ 1000000) (hk : ∀ x ∈ t, ∀ k ∈ x.kids, -1000000 ≤ k ∧ k ≤ 1000000) : movedW by_ t = movedN by_ t := by
  unfold movedW movedN
  refine List.map_congr_left (fun x hx => ?_)
  have : x.kids.map (wadd by_) = x.kids.map (· + by_) := List.map_congr_left (fun k hkk => by
    have := hk x hx k hkk
    exact IntWalk.i64_in _ (by omega))
  rw [this]
def mixI (ks : List Int) (by_ : Int) (q : Nat) : List Int := (ks.take q).map (wadd by_) ++ ks.drop q
theorem mixI_get {ks : List Int} {by_ : Int} {q : Nat} {k : Int} (h : ks[q]? = some k) : (mixI ks by_ q)[q]? = some k := by
  have hl : q < ks.length := (List.getElem?_eq_some_iff.1 h).1
  unfold mixI
  rw [List.getElem?_append_right (by simp; omega)]
  have e : q - ((ks.take q).map (wadd by_)).length = 0 := by simp; omega
  rw [e, List.getElem?_drop]
  exact h
theorem mixI_set {ks : List Int} {by_ : Int} {q : Nat} {k : Int} (h : ks[q]? = some k) : (mixI ks by_ q).set q (wadd by_ k) = mixI ks by_ (q + 1) := by
  have hl : q < ks.length := (List.getElem?_eq_some_iff.1 h).1
  unfold mixI
  rw [List.set_append_right _ _ (by simp; omega)]
  have e : q - ((ks.take q).map (wadd by_)).length = 0 := by simp; omega
  rw [e, drop_one h, take_one h, List.map_append, List.set_cons_zero, List.append_assoc]
  rfl
theorem mixI_all (ks : List Int) (by_ : Int) : mixI ks by_ ks.length = ks.map (wadd by_) := by
  unfold mixI
  rw [List.take_of_length_le (Nat.le_refl _), List.drop_of_length_le (Nat.le_refl _), List.append_nil]
theorem HasN.setT {w : World} {base T : Nat} {v : Value} {L : List (Nd × Value)} {cs : Array Value} {eT : TypeId} {fr : Nat × Nat} (h : HasN w base v L) (hT : w.heap[T]? = some (.cells cs eT fr)) (hI : eT ≠ tI) (hN : eT ≠ tN) (o : Nat) (u : Value) : HasN (w.setCell ⟨T, o, none⟩ u) base v L :=
  ⟨ownsRow_setCell_other h.row (fun e => own_apart_cells h.row hT hN e) _, fun p hp => ownsRow_setCell_other (h.kids p hp) (fun e => own_apart_cells (h.kids p hp) hT hI e) _⟩
theorem IntsKept.setT {w : World} {T : Nat} {cs : Array Value} {eT : TypeId} {fr : Nat × Nat} (hT : w.heap[T]? = some (.cells cs eT fr)) (hI : eT ≠ tI) (o : Nat) (u : Value) : IntsKept w (w.setCell ⟨T, o, none⟩ u) := fun k cs' fr' hk =>
  (Below.heap_setCell w ⟨T, o, none⟩ u k (fun e => by
    have e2 : k = T := e
    subst e2
    rw [hk] at hT
    simp only [Option.some.injEq, Obj.cells.injEq] at hT
    exact hI hT.2.1.symm)).trans hk
theorem IntsKept.grown {w w' : World} {b : Nat} {v : Value} {n : Nat} {xs : List Value} (hg : w.grownBy w' v.ownBlock) (h : w.ownsRow b tN 3 v n xs) : IntsKept w w' := fun k cs fr hk =>
  (hg.block k (Array.getElem?_eq_some_iff.1 hk).1 (fun e => own_apart_cells h hk (by decide) e.symm)).trans hk
theorem copy_ints {W : World} {g n : Nat} {B : Option Addr} {c2 : Nat} {ks : List Int} (hg : W.heap[g]? = some (.cells (List.replicate n (Value.int .i64 0)).toArray tI (0, 0))) (hn : ks.length = n) (hB : HoldsI W B ks) :
    ∃ w7, (Builtin.copy_ #[47, 47] tI #[.slice (some ⟨g, 0, none⟩) n n, .slice B n c2]).run Tryz.prog W = .ok (.int .i64 n) w7 ∧ w7.heap[g]? = some (.cells (intCells ks).toArray tI (0, 0)) ∧ Below g W w7 := by
  subst hn
  by_cases h0 : ks.length = 0
  · have hnil : ks = [] := List.eq_nil_of_length_eq_zero h0
    subst hnil
    exact ⟨W, run_copy_none (P := Tryz.prog) W 47 47 tI tI _ _ 0 0 0 c2 Tryz.underlying47 (by kernel_rfl) rfl, hg, Below.refl _ _⟩
  · obtain ⟨b, off, rfl, _⟩ := hB 0 _ (List.getElem?_eq_getElem (show 0 < ks.length by omega))
    have hr := run_copy_row (P := Tryz.prog) W 47 47 tI tI g 0 ks.length ks.length ⟨b, off, none⟩ ks.length c2 (List.replicate ks.length (Value.int .i64 0)).toArray tI (intCells ks) Tryz.underlying47 (by kernel_rfl) hg (by rw [intCells_length]; exact (Nat.min_self _).symm)
      (fun j u hj => by
        simp only [intCells, List.getElem?_map] at hj
        obtain ⟨y, hy, rfl⟩ := Option.map_eq_some_iff.1 hj
        obtain ⟨b', off', e, h1⟩ := hB j y hy
        cases e
        have ea : (⟨b, off, none⟩ : Addr).add j = ⟨b, off + j, none⟩ := by
          unfold Addr.add
          split
          · rename_i h; subst h; rfl
          · rfl
        rw [ea]
        exact h1) (by rw [intCells_length]; simp) (fun u hu => by simp only [intCells, List.mem_map] at hu; obtain ⟨y, _, rfl⟩ := hu; rfl)
    rw [intCells_length] at hr
    have e1 : ((List.replicate ks.length (Value.int .i64 0)).toArray.toList.take 0 ++ intCells ks ++ (List.replicate ks.length (Value.int .i64 0)).toArray.toList.drop (0 + ks.length)) = intCells ks := by simp
    rw [e1] at hr
    exact ⟨_, hr, setRow_heap W g _ _ tI _ hg, below_setRow (Below.refl _ _) (Nat.le_refl _) _⟩
set_option maxRecDepth 100000 in
set_option maxHeartbeats 8000000 in
theorem add_any (l : List Nd) (by_ : Int) (A : Option Addr) (c T base : Nat) (eT : TypeId) (r : List Value) (v : Value) (L : List (Nd × Value)) (w : World) (hbT : base ≤ T)
    (hT : w.heap[T]? = some (.cells (v :: r).toArray eT (0, 0))) (hI : eT ≠ tI) (hN : eT ≠ tN) (hv : HasN w base v L) (hL : L.length + l.length ≤ 100000)
    (hh : ∀ W, Below base w W → HoldsN W A l) (hi : IntN l) (hb1 : -1000000 ≤ by_) (hb2 : by_ ≤ 1000000) :
    Calls Tryz.prog 37 #[.pointer (some ⟨T, 0, none⟩), .int .i64 by_, .slice A l.length c] w fun e w' => e = .returned (.tuple #[]) ∧ ∃ v' L', w'.heap[T]? = some (.cells (v' :: r).toArray eT (0, 0)) ∧ HasN w' base v' (L ++ L') ∧
      L'.map Prod.fst = movedW by_ l ∧ (∀ p ∈ L', ∀ g, p.2.ownBlock = some g → w.heap.size ≤ g) ∧ Below base w w' ∧ IntsKept w w' := by
  have HH := Lib.hid hh
  have HI := Lib.hid hi
  clear hh hi
  have hTlt : T < w.heap.size := (Array.getElem?_eq_some_iff.1 hT).1
  go_enter Tryz.func37, Tryz.ntmps37
  go_wp2_with fail
  go_loopw [12] (fun s wr => ∃ (i : Nat) (v' : Value) (L' : List (Nd × Value)), s = .int .i64 i ∧ i ≤ l.length ∧ Hid (L'.length = i) ∧ Hid (L'.map Prod.fst = movedW by_ (l.take i)) ∧ wr.heap[T]? = some (.cells (v' :: r).toArray eT (0, 0)) ∧ Hid (HasN wr base v' (L ++ L')) ∧
      Hid (∀ p ∈ L', ∀ g, p.2.ownBlock = some g → w.heap.size ≤ g) ∧ Hid (Below base w wr) ∧ Hid (IntsKept w wr)) (fun s _ => l.length - (intOf s).toNat)
  case atStart => exact ⟨0, v, [], rfl, Nat.zero_le _, Lib.hid rfl, Lib.hid rfl, hT, Lib.hid (by rw [List.append_nil]; exact hv), Lib.hid (fun p hp => by simp at hp), Lib.hid (Below.refl _ _), Lib.hid (IntsKept.refl _)⟩
  case round =>
    clear hT hv
    obtain ⟨i, v', L', rfl, hi, HL, HM, hT, HN, HF, HB, HIK⟩ := hrel
    by_cases hlt : i < l.length
    · have g := List.getElem?_eq_getElem hlt
      have hmem := List.getElem_mem hlt
      have HM2 : Hid (∀ y : Nd, y = ⟨(l[i]).kind, (l[i]).text, (l[i]).kids.map (wadd by_)⟩ → (L'.map Prod.fst) ++ [y] = movedW by_ (l.take (i + 1))) := Lib.hid (fun y hy => by rw [HM.out, take_one g, hy]; unfold movedW; rw [List.map_append]; rfl)
      generalize l[i] = x at *
      obtain ⟨b, off, rfl, c0, c1, B, c2, c3, hK, hc⟩ := HH.out wr HB.out i x g
      obtain ⟨z1, z2, z3, z4⟩ := HI.out x hmem
      have lb : b < wr.heap.size := cell_lt c0
      have hb := HB.out
      have hsz := hb.size
      have HKx := Lib.hid hK
      have hmk := run_make_row' (P := Tryz.prog) 47 3 (.int .i64 0) 8 (by kernel_rfl) infoInt rfl .i64 .i64 x.kids.length (by omega) (by omega)
      clear hK g hmem z4 z1
      generalize hks : x.kids = ks at *
      have hr0 : ((wr.alloc (.cells #[.int .i64 x.kind, .string x.text, .slice B ks.length c2] tN)).alloc (.cells (madeCells #[.int .i64 0] ks.length) tI)).heap[wr.heap.size]? = some (.cells #[.int .i64 x.kind, .string x.text, .slice B ks.length c2] tN (0, 0)) :=
        (((Below.refl _ (wr.alloc (.cells #[.int .i64 x.kind, .string x.text, .slice B ks.length c2] tN))).alloc (Nat.le_refl _) _).block wr.heap.size (by simp)).trans (heap_alloc_new _ _)
      have hg9 : ((wr.alloc (.cells #[.int .i64 x.kind, .string x.text, .slice B ks.length c2] tN)).alloc (.cells (madeCells #[.int .i64 0] ks.length) tI)).heap[wr.heap.size + 1]? = some (.cells (List.replicate ks.length (Value.int .i64 0)).toArray tI (0, 0)) := by
        have h := heap_alloc_new (wr.alloc (.cells #[.int .i64 x.kind, .string x.text, .slice B ks.length c2] tN)) (.cells (madeCells #[.int .i64 0] ks.length) tI)
        rw [World.size_alloc] at h
        rw [h, ← toList_madeCells_one]
      have hlow : Below wr.heap.size wr ((wr.alloc (.cells #[.int .i64 x.kind, .string x.text, .slice B ks.length c2] tN)).alloc (.cells (madeCells #[.int .i64 0] ks.length) tI)) := ((Below.refl _ _).alloc (Nat.le_refl _) _).alloc (by simp) _
      have hzz : ((wr.alloc (.cells #[.int .i64 x.kind, .string x.text, .slice B ks.length c2] tN)).alloc (.cells (madeCells #[.int .i64 0] ks.length) tI)).heap.size = wr.heap.size + 2 := by simp
      have hKl := HKx.out.below hlow
      obtain ⟨w7, hcp, hw7, hb7⟩ := copy_ints (c2 := c2) hg9 rfl hKl
      have HR7 := Lib.hid ((hb7.block wr.heap.size (Nat.lt_succ_self _)).trans hr0)
      have HLOW7 := Lib.hid (hlow.trans (hb7.mono (Nat.le_succ _)))
      have HZ7 := hb7.size
      clear hg9 hr0 hKl hlow
      go_wp2_with fail
      clear hcp hmk
      have hU0 := own_row hw7 rfl (by omega)
      have hT7 : w7.heap[T]? = some (.cells (v' :: r).toArray eT (0, 0)) := (HLOW7.out.block T (Array.getElem?_eq_some_iff.1 hT).1).trans hT
      have hTP : T < wr.heap.size := (Array.getElem?_eq_some_iff.1 hT).1
      have hz7 : wr.heap.size + 2 ≤ w7.heap.size := by omega
      generalize hWR : wr = V at *
      generalize hPP : V.heap.size = P at *
      clear hw7 hb7 HZ7 hzz
      go_loopw [26] (fun s wr => ∃ q : Nat, s = .int .i64 q ∧ q ≤ ks.length ∧ wr.heap[P]? = some (.cells #[.int .i64 x.kind, .string x.text, .slice B ks.length c2] tN (0, 0)) ∧
          Hid (wr.ownsRow (P + 1) tI 1 (.slice (some ⟨P + 1, 0, none⟩) ks.length ks.length) ks.length (intCells (mixI ks by_ q))) ∧ Hid (Below P V wr) ∧ P + 2 ≤ wr.heap.size) (fun s _ => ks.length - (intOf s).toNat)
      case atStart => exact ⟨0, rfl, Nat.zero_le _, HR7.out, Lib.hid (by unfold mixI; simpa using hU0), HLOW7, hz7⟩
      case round =>
        clear HR7 HLOW7 hU0 hT7 hz7
        obtain ⟨q, rfl, hq, hrow, HU, HBq, hP2⟩ := hrel
        by_cases hlt2 : q < ks.length
        · have g2 := List.getElem?_eq_getElem hlt2
          have hgk : (intCells (mixI ks by_ q))[q]? = some (.int .i64 ks[q]) := by
            simp only [intCells, List.getElem?_map, mixI_get g2, Option.map_some]
          have HMS := Lib.hid (mixI_set (by_ := by_) g2)
          generalize ks[q] = k at *
          have f1 : wr.cell? ⟨P + 1, q, none⟩ = some (.int .i64 k) := (HU.out.cellAt q (by omega)).trans hgk
          have f2 : wr.frozen? ⟨P + 1, q, none⟩ = false := HU.out.frozenAt q
          obtain ⟨ho3, hg3⟩ := HU.out.stored q (.int .i64 (wadd by_ k))
          rw [intCells_set, HMS.out] at ho3
          have hw3 : IntKind.i64.wrap (k + by_) = wadd by_ k := rfl
          have hrow3 := (hg3.block P (by omega) (by simp)).trans hrow
          have HO3 := Lib.hid ho3
          have HB3 := Lib.hid (HBq.out.setCell (p := ⟨P + 1, q, none⟩) (by show P ≤ P + 1; omega) (.int .i64 (wadd by_ k)))
          have hz3 := hg3.size
          have hz4 : P + 2 ≤ (wr.setCell ⟨P + 1, q, none⟩ (.int .i64 (wadd by_ k))).heap.size := by omega
          clear ho3 hg3 hgk g2 hrow
          go_wp2_with fail
          go_roundw
          case rel => exact ⟨q + 1, by go_num, by omega, hrow3, HO3, HB3, hz4⟩
          case measure => simp [intOf]; omega
        · obtain rfl : q = ks.length := by omega
          have hU2 : wr.ownsRow (P + 1) tI 1 (.slice (some ⟨P + 1, 0, none⟩) ks.length ks.length) (ks.map (wadd by_)).length (intCells (ks.map (wadd by_))) := by
            have h := HU.out
            rw [mixI_all] at h
            rw [List.length_map]
            exact h
          have e0 : wr.cell? ⟨P, 0, none⟩ = some (.int .i64 x.kind) := by rw [cell_of_row0 hrow]; rfl
          have e1 : wr.cell? ⟨P, 1, none⟩ = some (.string x.text) := by rw [cell_of_row0 hrow]; rfl
          have hTq : wr.heap[T]? = some (.cells (v' :: r).toArray eT (0, 0)) := (HBq.out.block T hTP).trans hT
          have hNq : HasN wr base v' (L ++ L') := HN.out.below (by rw [hPP]; exact HBq.out)
          have hvf : ∃ A5 c5, v' = .slice A5 (L ++ L').length c5 := by
            obtain ⟨A5, c5, e, _⟩ := hNq.holds
            exact ⟨A5, c5, e⟩
          obtain ⟨A5, c5, rfl⟩ := hvf
          have hgN : ((wr.alloc (.cells #[.int .i64 x.kind, .string x.text, .slice (some ⟨P + 1, 0, none⟩) ks.length ks.length] tN)).drew).heap[wr.heap.size]? = some (.cells #[.int .i64 x.kind, .string x.text, .slice (some ⟨P + 1, 0, none⟩) ks.length ks.length] tN (0, 0)) := heap_alloc_new wr _
          have hBA : Below wr.heap.size wr ((wr.alloc (.cells #[.int .i64 x.kind, .string x.text, .slice (some ⟨P + 1, 0, none⟩) ks.length ks.length] tN)).drew) := ((Below.refl _ wr).alloc (Nat.le_refl _) _).drew
          have hszq : base ≤ wr.heap.size := by omega
          obtain ⟨A9, c9, w9, hrun, hN9, hgr9⟩ := push_node (x := ⟨x.kind, x.text, ks.map (wadd by_)⟩) hgN (hNq.below hBA) (own_mono (own_below hU2 hBA) (by omega)) (by rw [List.length_append, HL.out]; omega) (by simp; omega)
          have hTne : (Value.slice A5 (L ++ L').length c5).ownBlock ≠ some T := own_apart_cells hNq.row hTq (by exact hN)
          have hTl : T < wr.heap.size := by omega
          have hT9 : w9.heap[T]? = some (.cells (Value.slice A5 (L ++ L').length c5 :: r).toArray eT (0, 0)) := (hgr9.block T (by simp; omega) (fun e => hTne e.symm)).trans ((hBA.block T hTl).trans hTq)
          have t0 : wr.cell? ⟨T, 0, none⟩ = some (.slice A5 (L ++ L').length c5) := by rw [cell_of_row0 hTq]; rfl
          have t9 : w9.cell? ⟨T, 0, none⟩ = some (.slice A5 (L ++ L').length c5) := by rw [cell_of_row0 hT9]; rfl
          have t8 : w9.frozen? ⟨T, 0, none⟩ = false := frozen_of_row w9 _ 0 _ _ hT9
          have hT10 : (w9.setCell ⟨T, 0, none⟩ (.slice A9 ((L ++ L').length + 1) c9)).heap[T]? = some (.cells (Value.slice A9 ((L ++ L').length + 1) c9 :: r).toArray eT (0, 0)) := by
            rw [heap_setCell_same w9 T 0 _ _ _ hT9]
            simp
          have hN10 := hN9.setT hT9 hI hN 0 (.slice A9 ((L ++ L').length + 1) c9)
          have hI10 : IntsKept w (w9.setCell ⟨T, 0, none⟩ (.slice A9 ((L ++ L').length + 1) c9)) :=
            HIK.out.trans ((IntsKept.below (by rw [hPP]; exact HBq.out)).trans ((IntsKept.below hBA).trans ((IntsKept.grown hgr9 (own_below hNq.row hBA)).trans (IntsKept.setT hT9 hI 0 _))))
          have hB10 : Below base w (w9.setCell ⟨T, 0, none⟩ (.slice A9 ((L ++ L').length + 1) c9)) :=
            ((((hb.trans (HBq.out.mono (by omega))).trans (hBA.mono hszq)).grown hgr9 (by simp; omega) (fun kk hkk => ((own_below hNq.row hBA).lt kk hkk).1)).setCell (p := ⟨T, 0, none⟩) hbT _)
          have HT10 := Lib.hid hT10
          have HN10 := Lib.hid hN10
          have HI10 := Lib.hid hI10
          have HB10 := Lib.hid hB10
          have hbl := hb.size
          have HF10 : Hid (∀ p ∈ L' ++ [((⟨x.kind, x.text, ks.map (wadd by_)⟩ : Nd), Value.slice (some ⟨P + 1, 0, none⟩) ks.length ks.length)], ∀ g, p.2.ownBlock = some g → w.heap.size ≤ g) := Lib.hid (fun p hp g hg => by
            rcases List.mem_append.1 hp with hp | hp
            · exact HF.out p hp g hg
            · rw [List.mem_singleton.1 hp] at hg
              simp [Value.ownBlock] at hg
              omega)
          have HM10 : Hid ((L' ++ [((⟨x.kind, x.text, ks.map (wadd by_)⟩ : Nd), Value.slice (some ⟨P + 1, 0, none⟩) ks.length ks.length)]).map Prod.fst = movedW by_ (l.take (i + 1))) := Lib.hid (by rw [List.map_append]; exact HM2.out _ rfl)
          have HL10 : Hid ((L' ++ [((⟨x.kind, x.text, ks.map (wadd by_)⟩ : Nd), Value.slice (some ⟨P + 1, 0, none⟩) ks.length ks.length)]).length = i + 1) := Lib.hid (by rw [List.length_append, HL.out]; rfl)
          have s0 : wr.drew.cell? ⟨P, 0, none⟩ = some (.int .i64 x.kind) := e0
          have lP : P < wr.heap.size := by omega
          have a0 : (wr.alloc (.cells #[.int .i64 x.kind, .string x.text, .slice (some ⟨P + 1, 0, none⟩) ks.length ks.length] tN)).drew.cell? ⟨P, 0, none⟩ = some (.int .i64 x.kind) := (World.cell?_alloc_lt _ _ _ lP).trans e0
          have a1 : (wr.alloc (.cells #[.int .i64 x.kind, .string x.text, .slice (some ⟨P + 1, 0, none⟩) ks.length ks.length] tN)).drew.cell? ⟨P, 1, none⟩ = some (.string x.text) := (World.cell?_alloc_lt _ _ _ lP).trans e1
          have a2 : (wr.alloc (.cells #[.int .i64 x.kind, .string x.text, .slice (some ⟨P + 1, 0, none⟩) ks.length ks.length] tN)).drew.cell? ⟨T, 0, none⟩ = some (.slice A5 (L ++ L').length c5) := (World.cell?_alloc_lt _ _ _ hTl).trans t0
          have hPne : (Value.slice A5 (L ++ L').length c5).ownBlock ≠ some P := fun e => by
            have h1 := (HN.out.row.lt P e).2
            omega
          have hrow9 := (hgr9.block P (by simp; omega) (fun e => hPne e.symm)).trans ((hBA.block P lP).trans hrow)
          have b0 : w9.cell? ⟨P, 0, none⟩ = some (.int .i64 x.kind) := by rw [cell_of_row0 hrow9]; rfl
          have b1 : w9.cell? ⟨P, 1, none⟩ = some (.string x.text) := by rw [cell_of_row0 hrow9]; rfl
          generalize hLL : (L ++ L').length = nn at *
          clear hN10 hI10 hB10 hT10 hN9 hgr9 hNq hT9 hTq hU2 HU hrow9 hrow hBA hgN
          go_wp2_with fail
          refine wp_region_ordz (S := fun w' => w'.cell? ⟨P, 0, none⟩ = some (.int .i64 x.kind) ∧ w'.cell? ⟨P, 1, none⟩ = some (.string x.text) ∧ w'.cell? ⟨T, 0, none⟩ = some (.slice A5 nn c5)) [0, 1, 2, 3, 4, 5, 6, 7, 8, 9, 10] [11, 12, 13, 14, 15] 15 (by kernel_rfl) (by kernel_rfl) (fun _ _ _ _ _ h => h) ⟨e0, e1, t0⟩ ?_
          simp only [pick, List.filterMap_cons, List.filterMap_nil, List.getElem?_toArray, List.getElem?_cons_zero, List.getElem?_cons_succ]
          repeat (refine wpHead_step (v := ?_) rfl ?_ ?_; rotate_left; (focus (rintro w1 ⟨e0, e1, t0⟩; go_simp; try with_reducible rfl)); simp only [Act.put, List.setIfInBounds_toArray, List.set_cons_zero, List.set_cons_succ])
          refine wpHead_nil ?_
          refine wpTailZ_step rfl (fun K hK => ?_)
          go_wp2_with fail
          refine hK _ _ ⟨a0, a1, a2⟩ ?_
          clear hK K
          try simp only [Act.put, List.setIfInBounds_toArray, List.set_cons_zero, List.set_cons_succ]
          refine wpTailZ_step rfl (fun K hK => ?_)
          refine wp_append_run _ _ 23 23 rfl rfl rfl hrun ?_
          refine hK _ _ ⟨b0, b1, t9⟩ ?_
          clear hK K
          try simp only [Act.put, List.setIfInBounds_toArray, List.set_cons_zero, List.set_cons_succ]
          refine wpTailZ_step rfl (fun K hK => ?_)
          go_wp2_with fail
          refine hK _ _ ⟨b0, b1, t9⟩ ?_
          clear hK K
          try simp only [Act.put, List.setIfInBounds_toArray, List.set_cons_zero, List.set_cons_succ]
          refine wpTailZ_step rfl (fun K hK => ?_)
          go_wp2_with fail
          refine hK _ _ ⟨b0, b1, t9⟩ ?_
          clear hK K
          try simp only [Act.put, List.setIfInBounds_toArray, List.set_cons_zero, List.set_cons_succ]
          refine wpTailZ_last rfl (fun K hK => ?_)
          go_wp2_with fail
          go_roundw
          case rel => exact ⟨i + 1, _, _, by go_num, by omega, HL10, HM10, HT10.out, Lib.hid (by rw [← List.append_assoc]; exact HN10.out), HF10, HB10, HI10⟩
          case measure => simp [intOf]; omega
    · obtain rfl : i = l.length := by omega
      have HML : Hid (L'.map Prod.fst = movedW by_ l) := Lib.hid (by have h := HM.out; rwa [List.take_of_length_le (Nat.le_refl _)] at h)
      go_wp2_with fail
      go_end0
      exact ⟨rfl, v', L', hT, HN.out, HML.out, HF.out, HB.out, HIK.out⟩
end Go.Proofs.YtebejlnegalokaaGreatDoor.Nz
/-
  XNdKi, turned: what this seat needs of it.
-/
namespace Go.Proofs.YtebejlnegalokaaGreatDoor.Nz
open Go.RowKit
abbrev tBd : TypeId := 160
/-- The slice kv shares no list with the kids of L. -/
def FarN (kv : Value) (L : List (Nd × Value)) : Prop := ∀ p ∈ L, ∀ g, p.2.ownBlock = some g → kv.ownBlock ≠ some g
theorem HasN.far {w w' : World} {base : Nat} {v kv : Value} {L : List (Nd × Value)} (h : HasN w base v L) {b : Nat} {n : Nat} {xs : List Value} (hk : w.ownsRow b tI 1 kv n xs) (hf : FarN kv L) (hg : w.grownBy w' kv.ownBlock) : HasN w' base v L :=
  ⟨h.row.kept hg (own_apart h.row hk (by decide)), fun p hp => (h.kids p hp).kept hg (by
    cases he : p.2.ownBlock with
    | none => exact .inl rfl
    | some g => exact .inr (fun e => hf p hp g he e.symm))⟩
theorem FarN.next {w : World} {base : Nat} {v kv kv' : Value} {L : List (Nd × Value)} (h : HasN w base v L) (hf : FarN kv L) (hat : kv'.ownBlock = kv.ownBlock ∨ kv'.ownBlock = some w.heap.size) : FarN kv' L := fun p hp g hg e => by
  rcases hat with h1 | h1
  · exact hf p hp g hg (h1.symm.trans e)
  · rw [h1] at e
    simp at e
    subst e
    have := ((h.kids p hp).lt _ hg).2
    omega
abbrev errNodeAt (a : Addr) (w : World) : Prop := w.cell? ⟨0, 0, none⟩ = some (.iface 216 (.pointer (some a)))
/-- What a kid's tree leaves. -/
def KidDone (base T : Nat) (L : List (Nd × Value)) (t : List Nd) (Ks : List Int) (ev : Value) (w w' : World) : Prop := ∃ v' kv' L', w'.heap[T]? = some (.cells #[v', kv', ev] tBd (0, 0)) ∧ HasN w' base v' (L ++ L') ∧
      L'.map Prod.fst = movedW L.length t ∧ w'.ownsRow base tI 1 kv' (Ks ++ [((L ++ L').length : Int) - 1]).length (intCells (Ks ++ [((L ++ L').length : Int) - 1])) ∧ FarN kv' (L ++ L') ∧ Below base w w'
set_option maxRecDepth 100000 in
set_option maxHeartbeats 8000000 in
theorem kid_any (t : List Nd) (A : Option Addr) (c T base : Nat) (a : Addr) (v kv ev : Value) (L : List (Nd × Value)) (Ks : List Int) (w : World) (hbT : base ≤ T) (hgb : 0 < base)
    (hT : w.heap[T]? = some (.cells #[v, kv, ev] tBd (0, 0))) (hv : HasN w base v L) (hkv : w.ownsRow base tI 1 kv Ks.length (intCells Ks)) (hf : FarN kv L) (hL : L.length + t.length ≤ 90000) (hKl : Ks.length ≤ 90000) (hev : ev.oneCell' = true)
    (hh : ∀ W, Below base w W → HoldsN W A t) (hi : IntN t) (he : errNodeAt a w) (ev2 : Value) (hev2 : ev2 = if rightN t then ev else .iface 216 (.pointer (some a))) :
    Calls Tryz.prog 111 #[.pointer (some ⟨T, 0, none⟩), .slice A t.length c] w fun e w' => e = .returned (.tuple #[]) ∧ KidDone base T L t Ks ev2 w w' := by
  have hTl := (Array.getElem?_eq_some_iff.1 hT).1
  have HH := Lib.hid hh
  have HI := Lib.hid hi
  have HRt := Lib.hid (right_any t A c w (hh w (Below.refl _ _)) hi)
  have HE := Lib.hid he
  have hgl := cell_lt he
  simp only at hgl
  obtain ⟨A5, c5, rfl, _, _⟩ := hv.holds
  obtain ⟨Ak, ck, rfl, _, _, _⟩ := holdsI_of_own hkv
  have HAD := Lib.hid (fun (W : World) (ev' : Value) (h1 : W.heap[T]? = some (.cells (Value.slice A5 L.length c5 :: [.slice Ak Ks.length ck, ev']).toArray tBd (0, 0))) (h2 : HasN W base (.slice A5 L.length c5) L) (h3 : Below base w W) =>
    add_any t L.length A c T base tBd [.slice Ak Ks.length ck, ev'] (.slice A5 L.length c5) L W hbT h1 (by decide) (by decide) h2 (by omega) (fun W' hW' => hh W' (h3.trans hW')) hi (by omega) (by omega))
  clear hh hi he
  go_enter Tryz.func111, Tryz.ntmps111
  go_wp2_with fail
  refine HRt.out.mono ?_
  rintro e w1 ⟨rfl, hb1⟩
  have hT1 := (hb1.block T hTl).trans hT
  have hv1 := hv.below hb1
  have hkv1 := own_below hkv hb1
  have hsz1 := hb1.size
  obtain ⟨hl5, hl6⟩ : base ≤ T ∧ T < w1.heap.size := ⟨hbT, by omega⟩
  have hbb : base ≤ w.heap.size := by omega
  have hB1 : Below base w w1 := hb1.mono hbb
  have he1 : errNodeAt a w1 := (hb1.cell (p := ⟨0, 0, none⟩) hgl).trans HE.out
  cases hr : rightN t with
  | true =>
    rw [hr] at HRt hev2
    simp only [if_true] at hev2
    obtain rfl : ev = ev2 := hev2.symm
    have hT2 := hT1
    have hv2 := hv1
    have hkv2 := hkv1
    have hB2 := hB1
    clear hT1 hv1 hkv1 hB1
    go_wp2_with fail
    have t0 : w1.cell? ⟨T, 0, none⟩ = some (.slice A5 L.length c5) := by rw [cell_of_row0 hT2]; rfl
    have t1 : w1.cell? ⟨T, 1, none⟩ = some (.slice Ak Ks.length ck) := by rw [cell_of_row0 hT2]; rfl
    have HX := Lib.hid (HAD.out w1.drew ev hT2 ⟨hv2.row, hv2.kids⟩ hB2.drew)
    clear HAD
    go_region_with (go_at_call 37; refine HX.out.mono ?_; rintro e w3 ⟨rfl, v3, L3, hT3, hv3, hM3, hF3, hb3, hI3⟩)
    obtain ⟨A6, c6, rfl, _, _⟩ := hv3.holds
    have hkv3 := hI3.own (show w1.drew.ownsRow base tI 1 (.slice Ak Ks.length ck) Ks.length (intCells Ks) from hkv2)
    have hf3 : FarN (.slice Ak Ks.length ck) (L ++ L3) := fun p hp g hg e => by
      rcases List.mem_append.1 hp with hp | hp
      · exact hf p hp g hg e
      · have h1 := hF3 p hp g hg
        have h2 := (hkv.lt g e).2
        have h3 : w1.drew.heap.size = w1.heap.size := rfl
        omega
    have hB3 : Below base w w3 := hB2.drew.trans hb3
    have hT3l : T < w3.heap.size := (Array.getElem?_eq_some_iff.1 hT3).1
    have hsz3 : base ≤ w3.heap.size := by omega
    generalize hnn : (L ++ L3).length = nn at *
    have hnl : nn ≤ 100000 := by
      have h1 : L3.length = t.length := by
        have h := congrArg List.length hM3
        simpa [movedW] using h
      rw [← hnn, List.length_append, h1]
      omega
    have hgN : ((w3.alloc (.cells #[.int .i64 ((nn : Int) - 1)] tI)).drew).heap[w3.heap.size]? = some (.cells #[.int .i64 ((nn : Int) - 1)] tI (0, 0)) := heap_alloc_new w3 _
    have hBA : Below w3.heap.size w3 ((w3.alloc (.cells #[.int .i64 ((nn : Int) - 1)] tI)).drew) := ((Below.refl _ w3).alloc (Nat.le_refl _) _).drew
    have hkvA := own_below hkv3 hBA
    obtain ⟨A9, c9, w9, hrun, hkv9, hgr9, hat9⟩ := push_int (x := (nn : Int) - 1) hgN hkvA (by omega) (by simp; omega)
    have hTne : (Value.slice Ak Ks.length ck).ownBlock ≠ some T := own_apart_cells hkv3 hT3 (by decide)
    have hv9 := (hv3.below hBA).far hkvA hf3 hgr9
    have hf9 := FarN.next (hv3.below hBA) hf3 hat9
    have hT9 : w9.heap[T]? = some (.cells #[.slice A6 nn c6, .slice Ak Ks.length ck, ev] tBd (0, 0)) := (hgr9.block T (by simp; omega) (fun e => hTne e.symm)).trans ((hBA.block T hT3l).trans hT3)
    have hT10 : (w9.setCell ⟨T, 1, none⟩ (.slice A9 (Ks.length + 1) c9)).heap[T]? = some (.cells #[.slice A6 nn c6, .slice A9 (Ks.length + 1) c9, ev] tBd (0, 0)) := by
      rw [heap_setCell_same w9 T 1 _ _ _ hT9]
      simp
    have hv10 := hv9.setT hT9 (by decide) (by decide) 1 (.slice A9 (Ks.length + 1) c9)
    have hkv10 := ownsRow_setCell_other hkv9 (fun e => own_apart_cells hkv9 hT9 (by decide) e) (a := ⟨T, 1, none⟩) (.slice A9 (Ks.length + 1) c9)
    have hB10 : Below base w (w9.setCell ⟨T, 1, none⟩ (.slice A9 (Ks.length + 1) c9)) := (((hB3.trans (hBA.mono hsz3)).grown hgr9 (by simp; omega) (fun kk hkk => (hkv3.lt kk hkk).1)).setCell (p := ⟨T, 1, none⟩) hbT _)
    have s1 : w3.cell? ⟨T, 1, none⟩ = some (.slice Ak Ks.length ck) := by rw [cell_of_row0 hT3]; rfl
    have s0 : w3.cell? ⟨T, 0, none⟩ = some (.slice A6 nn c6) := by rw [cell_of_row0 hT3]; rfl
    have a1 : (w3.alloc (.cells #[.int .i64 ((nn : Int) - 1)] tI)).drew.cell? ⟨T, 1, none⟩ = some (.slice Ak Ks.length ck) := (World.cell?_alloc_lt _ _ _ hT3l).trans s1
    have a0 : (w3.alloc (.cells #[.int .i64 ((nn : Int) - 1)] tI)).drew.cell? ⟨T, 0, none⟩ = some (.slice A6 nn c6) := (World.cell?_alloc_lt _ _ _ hT3l).trans s0
    have b1 : w9.cell? ⟨T, 1, none⟩ = some (.slice Ak Ks.length ck) := by rw [cell_of_row0 hT9]; rfl
    have b0 : w9.cell? ⟨T, 0, none⟩ = some (.slice A6 nn c6) := by rw [cell_of_row0 hT9]; rfl
    have b2 : w9.frozen? ⟨T, 1, none⟩ = false := frozen_of_row w9 _ 1 _ _ hT9
    have hw3 : IntKind.i64.wrap ((nn : Int) - 1) = (nn : Int) - 1 := IntWalk.i64_in _ (by omega)
    have HFIN : Hid (KidDone base T L t Ks (ev) w (w9.setCell ⟨T, 1, none⟩ (.slice A9 (Ks.length + 1) c9))) :=
      Lib.hid ⟨_, _, L3, hT10, by rw [← hnn] at hv10; rw [← hnn]; exact hv10, hM3, by rw [hnn]; exact hkv10, hf9, hB10⟩
    clear hT10 hv10 hkv10 hB10 hv9 hkv9 hgr9 hat9 hf9 hkvA hBA hgN hM3 hF3 hI3 hf3 hkv3 hv3 hT3 hT9
    go_wp2_with fail
    refine wp_region_ordz (S := fun w' => w'.cell? ⟨T, 1, none⟩ = some (.slice Ak Ks.length ck) ∧ w'.cell? ⟨T, 0, none⟩ = some (.slice A6 nn c6)) [0, 1, 2, 3, 4, 5, 6, 7, 8, 9, 10, 11] [12, 13, 14, 15, 16] 16 (by kernel_rfl) (by kernel_rfl) (fun _ _ _ _ _ h => h) ⟨s1, s0⟩ ?_
    simp only [pick, List.filterMap_cons, List.filterMap_nil, List.getElem?_toArray, List.getElem?_cons_zero, List.getElem?_cons_succ]
    repeat (refine wpHead_step (v := ?_) rfl ?_ ?_; rotate_left; (focus (rintro w1 ⟨s1, s0⟩; go_simp; try with_reducible rfl)); simp only [Act.put, List.setIfInBounds_toArray, List.set_cons_zero, List.set_cons_succ])
    refine wpHead_nil ?_
    refine wpTailZ_step rfl (fun K hK => ?_)
    go_wp2_with fail
    refine hK _ _ ⟨a1, a0⟩ ?_
    clear hK K
    try simp only [Act.put, List.setIfInBounds_toArray, List.set_cons_zero, List.set_cons_succ]
    refine wpTailZ_step rfl (fun K hK => ?_)
    refine wp_append_run _ _ 47 47 rfl rfl rfl hrun ?_
    refine hK _ _ ⟨b1, b0⟩ ?_
    clear hK K
    try simp only [Act.put, List.setIfInBounds_toArray, List.set_cons_zero, List.set_cons_succ]
    refine wpTailZ_step rfl (fun K hK => ?_)
    go_wp2_with fail
    refine hK _ _ ⟨b1, b0⟩ ?_
    clear hK K
    try simp only [Act.put, List.setIfInBounds_toArray, List.set_cons_zero, List.set_cons_succ]
    refine wpTailZ_step rfl (fun K hK => ?_)
    go_wp2_with fail
    refine hK _ _ ⟨b1, b0⟩ ?_
    clear hK K
    try simp only [Act.put, List.setIfInBounds_toArray, List.set_cons_zero, List.set_cons_succ]
    refine wpTailZ_last rfl (fun K hK => ?_)
    go_wp2_with fail
    go_end0
    exact ⟨rfl, HFIN.out⟩
  | false =>
    rw [hr] at HRt hev2
    simp only [Bool.false_eq_true, if_false] at hev2
    subst hev2
    have y1 : w1.cell? ⟨T, 2, none⟩ = some ev := by rw [cell_of_row0 hT1]; rfl
    have y2 : w1.frozen? ⟨T, 2, none⟩ = false := frozen_of_row w1 _ 2 _ _ hT1
    have hTw : T < w1.heap.size := (Array.getElem?_eq_some_iff.1 hT1).1
    have hT2 : (w1.setCell ⟨T, 2, none⟩ (.iface 216 (.pointer (some a)))).heap[T]? = some (.cells #[.slice A5 L.length c5, .slice Ak Ks.length ck, .iface 216 (.pointer (some a))] tBd (0, 0)) := by
      rw [heap_setCell_same w1 T 2 _ _ _ hT1]
      simp
    have hv2 := hv1.setT hT1 (by decide) (by decide) 2 (.iface 216 (.pointer (some a)))
    have hkv2 := ownsRow_setCell_other hkv1 (fun e => own_apart_cells hkv1 hT1 (by decide) e) (a := ⟨T, 2, none⟩) (.iface 216 (.pointer (some a)))
    have hB2 := hB1.setCell (p := ⟨T, 2, none⟩) hbT (.iface 216 (.pointer (some a)))
    have hzz : (w1.setCell ⟨T, 2, none⟩ (.iface 216 (.pointer (some a)))).heap.size = w1.heap.size := by simp
    clear hT1 hv1 hkv1 hB1
    generalize hWX : w1.setCell ⟨T, 2, none⟩ (.iface 216 (.pointer (some a))) = w1x at *
    go_wp2_with fail
    have t0 : w1x.cell? ⟨T, 0, none⟩ = some (.slice A5 L.length c5) := by rw [cell_of_row0 hT2]; rfl
    have t1 : w1x.cell? ⟨T, 1, none⟩ = some (.slice Ak Ks.length ck) := by rw [cell_of_row0 hT2]; rfl
    have HX := Lib.hid (HAD.out w1x.drew (.iface 216 (.pointer (some a))) hT2 ⟨hv2.row, hv2.kids⟩ hB2.drew)
    clear HAD
    go_region_with (go_at_call 37; refine HX.out.mono ?_; rintro e w3 ⟨rfl, v3, L3, hT3, hv3, hM3, hF3, hb3, hI3⟩)
    obtain ⟨A6, c6, rfl, _, _⟩ := hv3.holds
    have hkv3 := hI3.own (show w1x.drew.ownsRow base tI 1 (.slice Ak Ks.length ck) Ks.length (intCells Ks) from hkv2)
    have hf3 : FarN (.slice Ak Ks.length ck) (L ++ L3) := fun p hp g hg e => by
      rcases List.mem_append.1 hp with hp | hp
      · exact hf p hp g hg e
      · have h1 := hF3 p hp g hg
        have h2 := (hkv.lt g e).2
        have h3 : w1x.drew.heap.size = w1x.heap.size := rfl
        omega
    have hB3 : Below base w w3 := hB2.drew.trans hb3
    have hT3l : T < w3.heap.size := (Array.getElem?_eq_some_iff.1 hT3).1
    have hsz3 : base ≤ w3.heap.size := by omega
    generalize hnn : (L ++ L3).length = nn at *
    have hnl : nn ≤ 100000 := by
      have h1 : L3.length = t.length := by
        have h := congrArg List.length hM3
        simpa [movedW] using h
      rw [← hnn, List.length_append, h1]
      omega
    have hgN : ((w3.alloc (.cells #[.int .i64 ((nn : Int) - 1)] tI)).drew).heap[w3.heap.size]? = some (.cells #[.int .i64 ((nn : Int) - 1)] tI (0, 0)) := heap_alloc_new w3 _
    have hBA : Below w3.heap.size w3 ((w3.alloc (.cells #[.int .i64 ((nn : Int) - 1)] tI)).drew) := ((Below.refl _ w3).alloc (Nat.le_refl _) _).drew
    have hkvA := own_below hkv3 hBA
    obtain ⟨A9, c9, w9, hrun, hkv9, hgr9, hat9⟩ := push_int (x := (nn : Int) - 1) hgN hkvA (by omega) (by simp; omega)
    have hTne : (Value.slice Ak Ks.length ck).ownBlock ≠ some T := own_apart_cells hkv3 hT3 (by decide)
    have hv9 := (hv3.below hBA).far hkvA hf3 hgr9
    have hf9 := FarN.next (hv3.below hBA) hf3 hat9
    have hT9 : w9.heap[T]? = some (.cells #[.slice A6 nn c6, .slice Ak Ks.length ck, .iface 216 (.pointer (some a))] tBd (0, 0)) := (hgr9.block T (by simp; omega) (fun e => hTne e.symm)).trans ((hBA.block T hT3l).trans hT3)
    have hT10 : (w9.setCell ⟨T, 1, none⟩ (.slice A9 (Ks.length + 1) c9)).heap[T]? = some (.cells #[.slice A6 nn c6, .slice A9 (Ks.length + 1) c9, .iface 216 (.pointer (some a))] tBd (0, 0)) := by
      rw [heap_setCell_same w9 T 1 _ _ _ hT9]
      simp
    have hv10 := hv9.setT hT9 (by decide) (by decide) 1 (.slice A9 (Ks.length + 1) c9)
    have hkv10 := ownsRow_setCell_other hkv9 (fun e => own_apart_cells hkv9 hT9 (by decide) e) (a := ⟨T, 1, none⟩) (.slice A9 (Ks.length + 1) c9)
    have hB10 : Below base w (w9.setCell ⟨T, 1, none⟩ (.slice A9 (Ks.length + 1) c9)) := (((hB3.trans (hBA.mono hsz3)).grown hgr9 (by simp; omega) (fun kk hkk => (hkv3.lt kk hkk).1)).setCell (p := ⟨T, 1, none⟩) hbT _)
    have s1 : w3.cell? ⟨T, 1, none⟩ = some (.slice Ak Ks.length ck) := by rw [cell_of_row0 hT3]; rfl
    have s0 : w3.cell? ⟨T, 0, none⟩ = some (.slice A6 nn c6) := by rw [cell_of_row0 hT3]; rfl
    have a1 : (w3.alloc (.cells #[.int .i64 ((nn : Int) - 1)] tI)).drew.cell? ⟨T, 1, none⟩ = some (.slice Ak Ks.length ck) := (World.cell?_alloc_lt _ _ _ hT3l).trans s1
    have a0 : (w3.alloc (.cells #[.int .i64 ((nn : Int) - 1)] tI)).drew.cell? ⟨T, 0, none⟩ = some (.slice A6 nn c6) := (World.cell?_alloc_lt _ _ _ hT3l).trans s0
    have b1 : w9.cell? ⟨T, 1, none⟩ = some (.slice Ak Ks.length ck) := by rw [cell_of_row0 hT9]; rfl
    have b0 : w9.cell? ⟨T, 0, none⟩ = some (.slice A6 nn c6) := by rw [cell_of_row0 hT9]; rfl
    have b2 : w9.frozen? ⟨T, 1, none⟩ = false := frozen_of_row w9 _ 1 _ _ hT9
    have hw3 : IntKind.i64.wrap ((nn : Int) - 1) = (nn : Int) - 1 := IntWalk.i64_in _ (by omega)
    have HFIN : Hid (KidDone base T L t Ks (.iface 216 (.pointer (some a))) w (w9.setCell ⟨T, 1, none⟩ (.slice A9 (Ks.length + 1) c9))) :=
      Lib.hid ⟨_, _, L3, hT10, by rw [← hnn] at hv10; rw [← hnn]; exact hv10, hM3, by rw [hnn]; exact hkv10, hf9, hB10⟩
    clear hT10 hv10 hkv10 hB10 hv9 hkv9 hgr9 hat9 hf9 hkvA hBA hgN hM3 hF3 hI3 hf3 hkv3 hv3 hT3 hT9
    go_wp2_with fail
    refine wp_region_ordz (S := fun w' => w'.cell? ⟨T, 1, none⟩ = some (.slice Ak Ks.length ck) ∧ w'.cell? ⟨T, 0, none⟩ = some (.slice A6 nn c6)) [0, 1, 2, 3, 4, 5, 6, 7, 8, 9, 10, 11] [12, 13, 14, 15, 16] 16 (by kernel_rfl) (by kernel_rfl) (fun _ _ _ _ _ h => h) ⟨s1, s0⟩ ?_
    simp only [pick, List.filterMap_cons, List.filterMap_nil, List.getElem?_toArray, List.getElem?_cons_zero, List.getElem?_cons_succ]
    repeat (refine wpHead_step (v := ?_) rfl ?_ ?_; rotate_left; (focus (rintro w1 ⟨s1, s0⟩; go_simp; try with_reducible rfl)); simp only [Act.put, List.setIfInBounds_toArray, List.set_cons_zero, List.set_cons_succ])
    refine wpHead_nil ?_
    refine wpTailZ_step rfl (fun K hK => ?_)
    go_wp2_with fail
    refine hK _ _ ⟨a1, a0⟩ ?_
    clear hK K
    try simp only [Act.put, List.setIfInBounds_toArray, List.set_cons_zero, List.set_cons_succ]
    refine wpTailZ_step rfl (fun K hK => ?_)
    refine wp_append_run _ _ 47 47 rfl rfl rfl hrun ?_
    refine hK _ _ ⟨b1, b0⟩ ?_
    clear hK K
    try simp only [Act.put, List.setIfInBounds_toArray, List.set_cons_zero, List.set_cons_succ]
    refine wpTailZ_step rfl (fun K hK => ?_)
    go_wp2_with fail
    refine hK _ _ ⟨b1, b0⟩ ?_
    clear hK K
    try simp only [Act.put, List.setIfInBounds_toArray, List.set_cons_zero, List.set_cons_succ]
    refine wpTailZ_step rfl (fun K hK => ?_)
    go_wp2_with fail
    refine hK _ _ ⟨b1, b0⟩ ?_
    clear hK K
    try simp only [Act.put, List.setIfInBounds_toArray, List.set_cons_zero, List.set_cons_succ]
    refine wpTailZ_last rfl (fun K hK => ?_)
    go_wp2_with fail
    go_end0
    exact ⟨rfl, HFIN.out⟩
end Go.Proofs.YtebejlnegalokaaGreatDoor.Nz
