/-
  The first so many splices: by the laws of layer 1 (Edit's few, turned).
-/
import Derived.Test.YtflpihedhccdfaaGreatDoorProg
import Derived.Test.YtflpihedhccdfaaGreatDoorReg
import Derived.WalkKit
import Derived.WalkSpells
import Derived.WalkLawsBesides
import Derived.Lib.Hide
import Derived.Lib.MinMax
import Derived.Deep.QuietTactic
import Derived.BigQuiet
import Derived.OwnWalk
import Derived.Deep.AppendLies
import Derived.KernelRfl
import Derived.Test.YtflpihedhccdfaaGreatDoorRw3
import Derived.Test.YtflpihedhccdfaaGreatDoorLxM2
import Derived.Lib.AppendZeros
import Derived.Laws.OwnMore
import Derived.Deep.OwnRows
import Derived.Test.YtflpihedhccdfaaGreatDoorLxM11
import Derived.Lib.BufferMore
set_option linter.unusedSimpArgs false
set_option linter.unusedVariables false
namespace Go.Proofs.YtflpihedhccdfaaGreatDoor
open Go.RowKit

structure Act5 where
  pos : Int
  n : Int
  s : ByteArray
def Act5.cells (x : Act5) : List Value := [.int .i64 x.pos, .int .i64 x.n, .string x.s]
/-- The slice value '.slice A n c' holds, in w, the edits l. -/
def HoldsC (w : World) (A : Option Addr) (l : List Act5) : Prop :=
  ∀ (k : Nat) (x : Act5), l[k]? = some x → ∃ b off, A = some ⟨b, off, none⟩ ∧ w.cell? ⟨b, off + k * 3, none⟩ = some (.int .i64 x.pos) ∧
    w.cell? ⟨b, off + k * 3 + 1, none⟩ = some (.int .i64 x.n) ∧ w.cell? ⟨b, off + k * 3 + 2, none⟩ = some (.string x.s)

theorem HoldsC.below {w w' : World} {A : Option Addr} {l : List Act5} (h : HoldsC w A l) (hb : Below w.heap.size w w') : HoldsC w' A l := fun k x hx => by
  obtain ⟨b, off, e, h1, h2, h3⟩ := h k x hx
  have hl : b < w.heap.size := cell_lt h1
  exact ⟨b, off, e, (hb.cell (p := ⟨b, _, none⟩) hl).trans h1, (hb.cell (p := ⟨b, _, none⟩) hl).trans h2, (hb.cell (p := ⟨b, _, none⟩) hl).trans h3⟩

theorem HoldsC.nil (w : World) (A : Option Addr) : HoldsC w A [] := fun k x hx => by simp at hx
def actCells (l : List Act5) : List Value := l.flatMap Act5.cells

theorem actCells_length (l : List Act5) : (actCells l).length = l.length * 3 := by
  induction l with
  | nil => rfl
  | cons x l ih => simp [actCells, Act5.cells] at ih ⊢; omega

theorem actCells_append (l m : List Act5) : actCells (l ++ m) = actCells l ++ actCells m := by simp [actCells]

theorem actCells_one (x : Act5) : actCells [x] = x.cells := by simp [actCells]

theorem actCells_get (l : List Act5) : ∀ (k : Nat) (x : Act5), l[k]? = some x → (actCells l)[k * 3]? = some (.int .i64 x.pos) ∧ (actCells l)[k * 3 + 1]? = some (.int .i64 x.n) ∧ (actCells l)[k * 3 + 2]? = some (.string x.s) := by
  induction l with
  | nil => intro k x h; simp at h
  | cons y l ih =>
    intro k x h
    have e : actCells (y :: l) = [.int .i64 y.pos, .int .i64 y.n, .string y.s] ++ actCells l := by simp [actCells, Act5.cells]
    cases k with
    | zero =>
      simp at h
      subst h
      rw [e]
      exact ⟨rfl, rfl, rfl⟩
    | succ k =>
      have h1 := ih k x (by simpa using h)
      rw [e]
      refine ⟨?_, ?_, ?_⟩
      · rw [List.getElem?_append_right (by simp; omega)]
        rw [← h1.1]; congr 1; simp; omega
      · rw [List.getElem?_append_right (by simp; omega)]
        rw [← h1.2.1]; congr 1; simp; omega
      · rw [List.getElem?_append_right (by simp; omega)]
        rw [← h1.2.2]; congr 1; simp; omega

theorem holdsC_of_own {w : World} {base : Nat} {e : TypeId} {v : Value} {n : Nat} {l : List Act5} (h : w.ownsRow base e 3 v n (actCells l)) :
    ∃ A c, v = .slice A l.length c ∧ n = l.length ∧ HoldsC w A l ∧ l.length ≤ c := by
  have hn : n = l.length := by have h1 := h.1; rw [actCells_length] at h1; omega
  subst hn
  rcases h.2 with ⟨rfl, h0⟩ | ⟨g, cap, cur, rfl, _, _, hcap, _⟩
  · have : l = [] := List.eq_nil_of_length_eq_zero h0
    subst this
    exact ⟨none, 0, rfl, rfl, HoldsC.nil _ _, Nat.le_refl _⟩
  · refine ⟨some ⟨g, 0, none⟩, cap, rfl, rfl, fun k x hx => ?_, hcap⟩
    have hc := h.cells (g := g) rfl
    obtain ⟨h1, h2, h3⟩ := actCells_get l k x hx
    have c1 := hc _ _ h1
    have c2 := hc _ _ h2
    have c3 := hc _ _ h3
    have ea : ∀ j, (⟨g, 0, none⟩ : Addr).add j = ⟨g, 0 + j, none⟩ := fun j => by
      unfold Addr.add
      split
      · rename_i h; subst h; rfl
      · rfl
    rw [ea] at c1 c2 c3
    exact ⟨g, 0, rfl, c1, by rw [Nat.add_assoc]; exact c2, by rw [Nat.add_assoc]; exact c3⟩

/-- What 'Few' makes of a splice. -/
def few51 (x : Act5) : Act5 := ⟨x.pos, x.n, cut4010 x.s⟩
def fewTo5 (l : List Act5) (k : Nat) : List Act5 := (l.take k).map few51

theorem fewTo5_succ (l : List Act5) (k : Nat) (h : k < l.length) : fewTo5 l (k + 1) = fewTo5 l k ++ [few51 l[k]] := by
  unfold fewTo5
  rw [List.take_succ_eq_append_getElem h, List.map_append]; rfl
theorem infoAct : (Tryz.prog.info? 41).map (fun i => (i.zero, i.size, i.bytes)) = some (some (.agg #[.int .i64 0, .int .i64 0, .string ByteArray.empty]), 3, 32) := by kernel_rfl

set_option maxRecDepth 100000 in
set_option maxHeartbeats 1000000 in
theorem Few_any (m : Nat) (A : Option Addr) (c : Nat) (l : List Act5) (w : World) (hm : m ≤ 1000) (hl : l.length ≤ maxLen) (hs : ∀ (k : Nat) (x : Act5), l[k]? = some x → x.s.size ≤ maxLen) (hh : HoldsC w A l) :
    Calls Tryz.prog 18 #[.slice A l.length c, .int .i64 m] w fun e w' => ∃ v, e = .returned v ∧ w'.ownsRow w.heap.size 41 3 v (fewTo5 l m).length (actCells (fewTo5 l m)) ∧ Below w.heap.size w w' := by
  unfold maxLen at hl
  obtain ⟨i0, hi0, hz0, hz1, hz2⟩ := info_parts infoAct
  go_enter Tryz.func18, Tryz.ntmps18
  go_wp2
  go_loopw [5, 6] (fun v i wr => ∃ (k : Nat), k ≤ l.length ∧ k ≤ m ∧ i = .int .i64 k ∧ wr.ownsRow w.heap.size 41 3 v k (actCells (fewTo5 l k)) ∧ Below w.heap.size w wr)
    (fun _ i _ => m - (intOf i).toNat)
  case atStart => exact ⟨0, by omega, by omega, rfl, World.ownsRow_nil _ _ _ _, Below.refl _ _⟩
  case round =>
    obtain ⟨k, hk, hkm, rfl, hown, hb⟩ := hrel
    by_cases hlt : k < l.length
    · by_cases h20 : k < m
      · have hkx := List.getElem?_eq_getElem hlt
        obtain ⟨b, off, rfl, c1, c2, c3⟩ := (hh.below hb) k l[k] hkx
        have hsz := hs k l[k] (List.getElem?_eq_getElem hlt)
        have hsn := fewTo5_succ l k hlt
        generalize l[k] = x at *
        have Hsn := Lib.hid hsn
        clear hsn
        have HC := Lib.hid (fun u => Cut_any x.s u hsz)
        have hlb : b < w.heap.size := by
          obtain ⟨b', off', e, q1, _⟩ := hh k x hkx
          cases e
          exact cell_lt q1
        have hbs := hb.size
        have hob := ownBlock_ge hown
        have hlo : u5.ownBlock ≠ some b := fun e => by have := hob _ e; omega
        go_wp2
        refine wp_region_ord (S := fun w' => w'.cell? ⟨b, off + k * 3, none⟩ = some (.int .i64 x.pos) ∧ w'.cell? ⟨b, off + k * 3 + 1, none⟩ = some (.int .i64 x.n) ∧ w'.cell? ⟨b, off + k * 3 + 2, none⟩ = some (.string x.s)) [0, 1, 2, 3, 4, 5, 6, 7, 8, 9, 10, 11, 12, 13, 14, 15] [16, 17, 18, 19, 20] (by kernel_rfl) (by kernel_rfl) (fun _ _ _ _ _ h => h) ⟨c1, c2, c3⟩ ?_
        simp only [pick, List.filterMap_cons, List.filterMap_nil, List.getElem?_toArray, List.getElem?_cons_zero, List.getElem?_cons_succ]
        repeat (refine wpHead_step (v := ?_) rfl ?_ ?_; rotate_left; (focus (rintro w1 ⟨d1, d2, d3⟩; go_simp; try with_reducible rfl)); simp only [Act.put, List.setIfInBounds_toArray, List.set_cons_zero, List.set_cons_succ])
        refine wpHead_nil ?_
        have lt1 : b < (World.drew wr).heap.size := by simp; omega
        refine wpTail_step rfl (fun K hK => ?_)
        go_wp2_with fail
        refine (HC.out _).mono ?_
        rintro r w' ⟨rfl, rfl⟩
        go_wp2_with fail
        refine hK _ _ ⟨c1, c2, c3⟩ ?_
        clear hK K
        try simp only [Act.put, List.setIfInBounds_toArray, List.set_cons_zero, List.set_cons_succ]
        refine wpTail_step rfl (fun K hK => ?_)
        go_wp2_with fail
        refine hK _ _ ⟨c1, c2, c3⟩ ?_
        clear hK K
        try simp only [Act.put, List.setIfInBounds_toArray, List.set_cons_zero, List.set_cons_succ]
        refine wpTail_step rfl (fun K hK => ?_)
        go_wp2_with fail
        refine hK _ _ ⟨(World.cell?_alloc_lt _ _ _ lt1).trans c1, (World.cell?_alloc_lt _ _ _ lt1).trans c2, (World.cell?_alloc_lt _ _ _ lt1).trans c3⟩ ?_
        clear hK K
        try simp only [Act.put, List.setIfInBounds_toArray, List.set_cons_zero, List.set_cons_succ]
        refine wpTail_step rfl (fun K hK => ?_)
        refine wp_append_own _ _ _ 38 rfl w.heap.size 41 i0 _ 3 32 Tryz.underlying38 hi0 hz0 hz1 hz2 rfl (by decide) u5 k (actCells (fewTo5 l k)) rfl ((hown.alloc _).drew) ⟨wr.heap.size, 0, none⟩ 1 1 (Act5.cells (few51 x)) rfl rfl (World.news_of_block (cs := (Act5.cells (few51 x)).toArray) (t := 41) (fr := (0, 0)) (heap_alloc_new wr _)) (by simp [Act5.cells, Value.oneCell']) (by unfold maxLen; omega) (by omega) (by simp; omega) (fun v' w1 hown1 hgrow1 _ => ?_)
        have lt2 : ∀ o, (⟨b, o, none⟩ : Addr).block < (World.drew (wr.alloc (.cells (Act5.cells (few51 x)).toArray 41))).heap.size := fun o => by simp; omega
        have d1 := (hgrow1.cell_far ⟨b, off + k * 3, none⟩ (lt2 _) (Ne.symm hlo)).trans ((World.cell?_alloc_lt _ _ _ lt1).trans c1)
        have d2 := (hgrow1.cell_far ⟨b, off + k * 3 + 1, none⟩ (lt2 _) (Ne.symm hlo)).trans ((World.cell?_alloc_lt _ _ _ lt1).trans c2)
        have d3 := (hgrow1.cell_far ⟨b, off + k * 3 + 2, none⟩ (lt2 _) (Ne.symm hlo)).trans ((World.cell?_alloc_lt _ _ _ lt1).trans c3)
        refine hK _ _ ⟨d1, d2, d3⟩ ?_
        clear hK K
        try simp only [Act.put, List.setIfInBounds_toArray, List.set_cons_zero, List.set_cons_succ]
        refine wpTail_step rfl (fun K hK => ?_)
        go_wp2_with fail
        refine hK _ _ ⟨d1, d2, d3⟩ ?_
        clear hK K
        try simp only [Act.put, List.setIfInBounds_toArray, List.set_cons_zero, List.set_cons_succ]
        refine wpTail_nil ?_
        rw [← actCells_one, ← actCells_append, ← Hsn.out] at hown1
        go_wp2
        go_roundw
        case rel => exact ⟨k + 1, by omega, by omega, by go_num, hown1, ((hb.alloc hb.size _).drew).grown hgrow1 (by have := hb.size; simp; omega) (ownBlock_ge hown)⟩
        case measure => simp [intOf]; omega
      · obtain rfl : k = m := by omega
        have hlen : (fewTo5 l k).length = k := by unfold fewTo5; rw [List.length_map, List.length_take]; omega
        have HLen := Lib.hid hlen
        clear hlen
        go_wp2
        go_ret
        exact ⟨_, rfl, by rw [HLen.out]; exact hown, hb⟩
    · obtain rfl : k = l.length := by omega
      have e : fewTo5 l l.length = fewTo5 l m := by unfold fewTo5; rw [List.take_of_length_le (Nat.le_refl _), List.take_of_length_le (by omega)]
      have hlen : (fewTo5 l l.length).length = l.length := by unfold fewTo5; rw [List.length_map, List.length_take]; omega
      rw [e] at hlen hown
      have HLen := Lib.hid hlen
      clear e hlen
      go_wp2
      go_ret
      exact ⟨_, rfl, by rw [HLen.out]; exact hown, hb⟩
end Go.Proofs.YtflpihedhccdfaaGreatDoor
/-
  Lists of lines put one behind the other: by the library.
-/
namespace Go.Proofs.YtflpihedhccdfaaGreatDoor
open Go Go.RowKit

set_option maxRecDepth 100000 in
set_option maxHeartbeats 4000000 in
theorem Grow_nil (n : Nat) (w : World) (h0 : 0 < n) (hn : n ≤ 10000) :
    Calls Tryz.prog 43 #[.slice none 0 0, .int .i64 n] w fun e w' => ∃ v, e = .returned v ∧ w'.ownsRow w.heap.size 75 2 v 0 [] ∧ Below w.heap.size w w' := by
  obtain ⟨i0, hi0, hz0, hz1, hz2⟩ := info_parts infoLine
  have hr := fun ty => Lib.run_append_nil_zeros (P := Tryz.prog) w 59 3 ty 75 i0 _ .i64 .i64 Tryz.underlying59 Tryz.underlying3 hi0 hz0 n h0 (by omega) (by omega) (by rw [hz2]; omega)
  have hGe := grownCap_ge w n 0 75
  have hGm := grownCap_le_maxLen w n 0 75 (by unfold maxLen; omega)
  generalize grownCap w n 0 75 = G at *
  have hO := World.ownsRow_made (base := w.heap.size) (e := 75) (size := 2) w.drew (Builtin.zeroCells (Value.agg #[.string ByteArray.empty, .slice none 0 0]).cells n ++ Builtin.zeroCells (Value.agg #[.string ByteArray.empty, .slice none 0 0]).cells (G - n)) G (Nat.le_refl _) hGm (by
    rw [Array.size_append, size_zeroCells, size_zeroCells]
    simp [Value.cells]
    omega)
  have hB := below_new w.drew (.cells (Builtin.zeroCells (Value.agg #[.string ByteArray.empty, .slice none 0 0]).cells n ++ Builtin.zeroCells (Value.agg #[.string ByteArray.empty, .slice none 0 0]).cells (G - n)) 75)
  have HO := Lib.hid hO
  have HB : Hid (Below w.heap.size w (w.drew.alloc (.cells (Builtin.zeroCells (Value.agg #[.string ByteArray.empty, .slice none 0 0]).cells n ++ Builtin.zeroCells (Value.agg #[.string ByteArray.empty, .slice none 0 0]).cells (G - n)) 75))) := Lib.hid ((Below.refl _ w).drew.trans hB)
  unfold maxLen at hGm
  clear hO hB
  generalize w.drew.alloc (.cells (Builtin.zeroCells (Value.agg #[.string ByteArray.empty, .slice none 0 0]).cells n ++ Builtin.zeroCells (Value.agg #[.string ByteArray.empty, .slice none 0 0]).cells (G - n)) 75) = W at *
  have h1 : ¬ ((n : Int) < 0) := by omega
  have h4 : (n : Int) > 0 := by omega
  have h5 : (0 : Int) < n := by omega
  go_enter Tryz.func43, Tryz.ntmps43
  go_wp2_with (at_builtin; refine Lib.wpList_append_run _ rfl _ _ _ _ rfl _ _ rfl rfl _ _ (hr _) ?_)
  all_goals (go_ret; exact ⟨_, rfl, HO.out, HB.out⟩)

abbrev Part := Option Addr × Nat × List Ln
def allL (ps : List Part) : List Ln := (ps.map (fun x => x.2.2)).flatten
theorem allL_append (ps qs : List Part) : allL (ps ++ qs) = allL ps ++ allL qs := by simp [allL]
theorem allL_step {ps : List Part} {k : Nat} {x : Part} (h : ps[k]? = some x) : allL (ps.take (k + 1)) = allL (ps.take k) ++ x.2.2 := by
  rw [take_one h, allL_append]
  simp [allL]
theorem allL_take_le (ps : List Part) (k : Nat) : (allL (ps.take k)).length ≤ (allL ps).length := by
  conv => rhs; rw [← List.take_append_drop k ps, allL_append, List.length_append]
  omega
/-- The slices at b. -/
def HoldsP (w : World) (b : Nat) (ps : List Part) : Prop := ∀ (k : Nat) (x : Part), ps[k]? = some x → w.cell? ⟨b, k, none⟩ = some (.slice x.1 x.2.2.length x.2.1) ∧ HoldsL w x.1 x.2.2
theorem HoldsP.below {w w' : World} {b : Nat} {ps : List Part} (h : HoldsP w b ps) (hb : Below w.heap.size w w') : HoldsP w' b ps := fun k x hx => by
  obtain ⟨h1, h2⟩ := h k x hx
  exact ⟨(hb.cell (p := ⟨b, k, none⟩) (cell_lt h1)).trans h1, h2.below hb⟩

set_option maxRecDepth 100000 in
set_option maxHeartbeats 8000000 in
theorem Concat_any (b c : Nat) (ps : List Part) (w : World) (hp : ps.length ≤ 100) (h0 : 0 < (allL ps).length) (hn : (allL ps).length ≤ 10000) (hH : HoldsP w b ps) :
    Calls Tryz.prog 31 #[.slice (some ⟨b, 0, none⟩) ps.length c] w fun e w' => ∃ v, e = .returned v ∧ w'.ownsRow w.heap.size 75 2 v (allL ps).length (lnCells (allL ps)) ∧ Below w.heap.size w w' := by
  obtain ⟨i0, hi0, hz0, hz1, hz2⟩ := info_parts infoLine
  go_enter Tryz.func31, Tryz.ntmps31
  go_wp2_with fail
  go_loopw [3, 11] (fun s i wr => ∃ (k : Nat), k ≤ ps.length ∧ i = .int .i64 k ∧ s = .int .i64 (allL (ps.take k)).length ∧ w = wr) (fun _ i _ => ps.length - (intOf i).toNat)
  case atStart => exact ⟨0, by omega, rfl, by simp [allL], rfl⟩
  case round =>
    obtain ⟨k, hk, rfl, rfl, rfl⟩ := hrel
    by_cases hlt : k < ps.length
    · have hx := List.getElem?_eq_getElem hlt
      obtain ⟨c1, hL⟩ := hH k ps[k] hx
      have hst := congrArg List.length (allL_step hx)
      have hle := allL_take_le ps (k + 1)
      rw [List.length_append] at hst
      have hi1 : ((k : Int) < (ps.length : Int)) := by omega
      generalize ps[k] = x at *
      have HH := Lib.hid hH
      have HX := Lib.hid hx
      have HL := Lib.hid hL
      have HS : Hid (((allL (ps.take k)).length : Int) + x.2.2.length = ((allL (ps.take (k + 1))).length : Int)) := Lib.hid (by omega)
      have hb1 : (allL (ps.take k)).length + x.2.2.length ≤ 10000 := by omega
      have q0 : ¬ (((allL (ps.take k)).length : Int) + x.2.2.length < 0) := by omega
      clear hx hL hH hst hle
      obtain ⟨m2, hm2⟩ : ∃ m2, m2 = (allL (ps.take (k + 1))).length := ⟨_, rfl⟩
      rw [← hm2] at HS
      have HM := Lib.hid hm2
      clear hm2
      generalize (allL (ps.take k)).length = m1 at *
      go_wp2_with fail
      go_roundw
      case rel => exact ⟨k + 1, by omega, by go_num, by rw [← HM.out, ← HS.out], trivial⟩
      case measure => simp [intOf]; omega
    · obtain rfl : k = ps.length := by omega
      have ht : ps.take ps.length = ps := List.take_length
      rw [ht]
      have HG := Lib.hid (Grow_nil (allL ps).length w h0 hn)
      have HH := Lib.hid hH
      clear ht hlt hk hH
      go_wp2_with fail
      refine HG.out.mono ?_
      rintro e w1 ⟨v1, rfl, ho1, hb1⟩
      have HO1 := Lib.hid ho1
      have HB1 := Lib.hid hb1
      clear HG ho1 hb1
      go_wp2_with fail
      go_loopw [6, 27] (fun v i wx => ∃ (k : Nat), k ≤ ps.length ∧ i = .int .i64 k ∧ wx.ownsRow w.heap.size 75 2 v (allL (ps.take k)).length (lnCells (allL (ps.take k))) ∧ Below w.heap.size w wx) (fun _ i _ => ps.length - (intOf i).toNat)
      case atStart => exact ⟨0, by omega, rfl, by simpa [allL, lnCells] using HO1.out, HB1.out⟩
      case round =>
        obtain ⟨k, hk, rfl, hown, hlow⟩ := hrel
        by_cases hlt : k < ps.length
        · have hx := List.getElem?_eq_getElem hlt
          obtain ⟨c1, hL⟩ := (HH.out.below hlow) k ps[k] hx
          have hst := allL_step hx
          have hle := allL_take_le ps (k + 1)
          have hlen := congrArg List.length hst
          rw [List.length_append] at hlen
          have hi1 : ((k : Int) < (ps.length : Int)) := by omega
          generalize ps[k] = x at *
          have HX := Lib.hid hx
          have HT := Lib.hid hst
          have HN := Lib.hid hlen
          have hsw := hlow.size
          have hb1 : (allL (ps.take k)).length ≤ 10000 ∧ x.2.2.length ≤ 10000 := by omega
          have hob := ownBlock_ge hown
          have HO := Lib.hid hown
          have HLL := Lib.hid hL
          clear hx hst hle hlen hown hL
          go_wp2_with (at_builtin; go_must (refine wpList_append_lns rfl _ _ rfl rfl i0 _ hi0 hz0 hz1 hz2 rfl w.heap.size _ _ _ rfl HO.out x.1 x.2.1 x.2.2 rfl HLL.out hb1.1 hb1.2 hsw ?_); go_must (intro v4 w4 hown4 hg4))
          go_roundw
          case rel =>
            refine ⟨k + 1, by omega, by go_num, ?_, hlow.grown hg4 hsw hob⟩
            rw [HT.out, List.length_append, lnCells_append]
            exact hown4
          case measure => simp [intOf]; omega
        · obtain rfl : k = ps.length := by omega
          have ht : ps.take ps.length = ps := List.take_length
          rw [ht] at hown
          have HO := Lib.hid hown
          have HL := Lib.hid hlow
          clear hown hlow ht
          go_wp2_with fail
          go_ret
          exact ⟨_, rfl, HO.out, HL.out⟩
end Go.Proofs.YtflpihedhccdfaaGreatDoor
/-
  How many lines, how many were lexed, the text: by the program.
-/
namespace Go.Proofs.YtflpihedhccdfaaGreatDoor
open Go.RowKit Go.Maps

theorem textsOf_len (l : List Ln) : (textsOf l).length = l.length := by simp [textsOf]
theorem startL_texts (l : List Ln) : startL l l.length = ((textsOf l).map (fun s => s.size + 1)).sum := by
  unfold startL textsOf
  rw [List.take_length, List.map_map]
  rfl
theorem sum_join : ∀ ps : List ByteArray, ps ≠ [] → (ps.map (fun s => s.size + 1)).sum = (join10 (listsOf ps)).length + 1
  | [], h => absurd rfl h
  | [p], _ => by simp [listsOf, join10, bytes_len]
  | p :: q :: ps, _ => by
    have ih := sum_join (q :: ps) (by simp)
    simp only [listsOf, List.map_cons, join10, List.sum_cons, List.length_append, List.length_cons, bytes_len] at ih ⊢
    omega
theorem pieces_ne (t : ByteArray) : piecesB t ≠ [] := by
  unfold piecesB
  simp [linesL_ne]
theorem startL_size {l : List Ln} {t : ByteArray} (h : textsOf l = piecesB t) : startL l l.length = t.size + 1 := by
  rw [startL_texts, h, sum_join _ (pieces_ne t), join_pieces, bytes_len]
theorem joinT_is {l : List Ln} {t : ByteArray} (h : textsOf l = piecesB t) : joinT l = t := by
  unfold joinT
  rw [h, join_pieces]
  exact toB_of t

set_option maxRecDepth 100000 in
set_option maxHeartbeats 4000000 in
theorem Lines_any (X : Nat) (t : ByteArray) (q : Int) (w : World) (h : IsLex w X t q) (ht : t.size ≤ 4000) :
    Calls Tryz.prog 15 #[.pointer (some ⟨X, 0, none⟩)] w fun e w' => e = .returned (.int .i64 (piecesB t).length) ∧ w' = w := by
  obtain ⟨base, v, ls, h1, h2, h3, h4⟩ := h
  obtain ⟨A, c, rfl⟩ := owns_slice h2
  have hlen := textsOf_len ls
  rw [h3] at hlen
  have c0 : w.cell? ⟨X, 0, none⟩ = some (.slice A ls.length c) := by simp [World.cell?, h1]
  rw [hlen]
  clear h1 h2 h3 h4 hlen
  go_enter Tryz.func15, Tryz.ntmps15
  go_wp2_with fail
  go_ret
  exact ⟨rfl, rfl⟩

set_option maxRecDepth 100000 in
set_option maxHeartbeats 4000000 in
theorem Lexed_any (X : Nat) (t : ByteArray) (q : Int) (w : World) (h : IsLex w X t q) (hq : 0 ≤ q ∧ q ≤ 2000000000) :
    Calls Tryz.prog 14 #[.pointer (some ⟨X, 0, none⟩)] w fun e w' => e = .returned (.int .i64 q) ∧ w' = w := by
  obtain ⟨base, v, ls, h1, h2, h3, h4⟩ := h
  have c1 : w.cell? ⟨X, 1, none⟩ = some (.int .i64 q) := by simp [World.cell?, h1]
  have HL := Lib.hid (Load_any X 1 q w c1)
  clear h1 h2 h3 h4
  go_enter Tryz.func14, Tryz.ntmps14
  go_wp2_with fail
  refine HL.out.mono ?_
  rintro e w2 ⟨rfl, rfl⟩
  go_wp2_with fail
  go_ret
  exact ⟨rfl, rfl⟩

set_option maxRecDepth 100000 in
set_option maxHeartbeats 4000000 in
theorem Text_lex (X : Nat) (t : ByteArray) (q : Int) (w : World) (h : IsLex w X t q) (ht : t.size ≤ 4000) :
    Calls Tryz.prog 13 #[.pointer (some ⟨X, 0, none⟩)] w fun e w' => e = .returned (.string t) ∧ Below w.heap.size w w' := by
  obtain ⟨base, v, ls, h1, h2, h3, h4⟩ := h
  obtain ⟨A, c, rfl, -, hH, -⟩ := holdsL_of_own h2
  have c0 : w.cell? ⟨X, 0, none⟩ = some (.slice A ls.length c) := by simp [World.cell?, h1]
  have hst := startL_size h3
  have hll : ls.length = (piecesB t).length := by rw [← h3, textsOf_len]
  have hpl := pieces_le t
  have HW := whole_any X A c ls w (by omega) (by omega) c0 hH
  rw [joinT_is h3] at HW
  have HW := Lib.hid HW
  clear h1 h2 h3 h4 hH c0
  go_enter Tryz.func13, Tryz.ntmps13
  go_wp2_with fail
  refine HW.out.mono ?_
  rintro e w2 ⟨rfl, hb2⟩
  go_wp2_with fail
  go_ret
  exact ⟨rfl, hb2⟩

set_option maxRecDepth 100000 in
theorem Lines_nil (w : World) : Calls Tryz.prog 15 #[.pointer none] w fun e w' => e = .returned (.int .i64 0) ∧ w' = w := by
  go_enter Tryz.func15, Tryz.ntmps15
  go_wp2_with fail
  go_ret
  exact ⟨rfl, rfl⟩
set_option maxRecDepth 100000 in
theorem Lexed_nil (w : World) : Calls Tryz.prog 14 #[.pointer none] w fun e w' => e = .returned (.int .i64 0) ∧ w' = w := by
  go_enter Tryz.func14, Tryz.ntmps14
  go_wp2_with fail
  go_ret
  exact ⟨rfl, rfl⟩
set_option maxRecDepth 100000 in
theorem Text_nil (w : World) : Calls Tryz.prog 13 #[.pointer none] w fun e w' => e = .returned (.string ⟨#[]⟩) ∧ w' = w := by
  go_enter Tryz.func13, Tryz.ntmps13
  go_wp2_with fail
  go_ret
  exact ⟨rfl, rfl⟩
set_option maxRecDepth 100000 in
theorem Tokens_nil (w : World) : Calls Tryz.prog 23 #[.pointer none] w fun e w' => e = .returned (.slice none 0 0) ∧ w' = w := by
  go_enter Tryz.func23, Tryz.ntmps23
  go_wp2_with fail
  go_ret
  exact ⟨rfl, rfl⟩
set_option maxRecDepth 100000 in
theorem Line_nil (i : Int) (w : World) : Calls Tryz.prog 17 #[.pointer none, .int .i64 i] w fun e w' => e = .returned (.slice none 0 0) ∧ w' = w := by
  go_enter Tryz.func17, Tryz.ntmps17
  go_wp2_with fail
  go_ret
  exact ⟨rfl, rfl⟩
end Go.Proofs.YtflpihedhccdfaaGreatDoor
/-
  A text's tokens: by the program.
-/
namespace Go.Proofs.YtflpihedhccdfaaGreatDoor
open Go Go.RowKit

theorem toksOf_snoc : ∀ (ps : List ByteArray) (p : ByteArray), toksOf (ps ++ [p]) = if ps = [] then dLine p else toksOf ps ++ endT :: dLine p
  | [], p => rfl
  | [q], p => by simp [toksOf]
  | q :: q2 :: ps, p => by
    have ih := toksOf_snoc (q2 :: ps) p
    simp only [List.cons_append, reduceCtorEq, if_false] at ih ⊢
    rw [toksOf, ih, toksOf]
    simp
theorem toksOf_len : ∀ ps : List ByteArray, (toksOf ps).length ≤ (ps.map (fun s => s.size + 1)).sum
  | [] => Nat.le_refl _
  | [p] => by have := dLine_len p; simp [toksOf]; omega
  | p :: q :: ps => by
    have ih := toksOf_len (q :: ps)
    have := dLine_len p
    simp only [toksOf, List.length_append, List.length_cons, List.map_cons, List.sum_cons] at ih ⊢
    omega
theorem toksUp_len (ls : List Ln) (k : Nat) : (toksOf (textsOf (ls.take k))).length ≤ startL ls ls.length := by
  have h1 := toksOf_len (textsOf (ls.take k))
  have h2 := startL_le ls k
  unfold startL textsOf at *
  rw [List.map_map] at h1
  exact Nat.le_trans h1 h2
theorem endT_cells : endT.cells = [.int .i64 11, .string ⟨#[10]⟩, .string ⟨#[]⟩] := rfl

set_option maxRecDepth 100000 in
set_option maxHeartbeats 8000000 in
theorem Tokens_lex (X : Nat) (t : ByteArray) (q : Int) (w : World) (h : IsLex w X t q) (ht : t.size ≤ 4000) :
    Calls Tryz.prog 23 #[.pointer (some ⟨X, 0, none⟩)] w fun e w' => ∃ v, e = .returned v ∧ w'.ownsRow w.heap.size 55 3 v (tokensS t).length (tokCells (tokensS t)) ∧ Below w.heap.size w w' := by
  obtain ⟨i0, hi0, hz0, hz1, hz2⟩ := info_parts infoTok
  obtain ⟨base, v, ls, h1, h2, h3, h4⟩ := h
  obtain ⟨A, c, rfl, -, hH, -⟩ := holdsL_of_own h2
  have c0 : w.cell? ⟨X, 0, none⟩ = some (.slice A ls.length c) := by simp [World.cell?, h1]
  have hst := startL_size h3
  have hll : ls.length = (piecesB t).length := by rw [← h3, textsOf_len]
  have hpl := pieces_le t
  have hlen := toksUp_len ls
  have hTk : tokensS t = toksOf (textsOf ls) := by unfold tokensS; rw [h3]
  rw [hTk]
  have H4 := Lib.hid h4
  have hbd : ls.length ≤ 5000 := by omega
  clear h1 h2 h3 h4 hTk hll
  go_enter Tryz.func23, Tryz.ntmps23
  go_wp2_with fail
  go_loopw [3, 14] (fun v i wr => ∃ (k : Nat), k ≤ ls.length ∧ i = .int .i64 k ∧ wr.ownsRow w.heap.size 55 3 v (toksOf (textsOf (ls.take k))).length (tokCells (toksOf (textsOf (ls.take k)))) ∧ Below w.heap.size w wr) (fun _ i _ => ls.length - (intOf i).toNat)
  case atStart => exact ⟨0, by omega, rfl, World.ownsRow_nil _ _ _ _, Below.refl _ _⟩
  case round =>
    obtain ⟨k, hk, rfl, hown, hlow⟩ := hrel
    by_cases hlt : k < ls.length
    · have hx := List.getElem?_eq_getElem hlt
      obtain ⟨b, off, rfl, c1, c2⟩ := (hH.below hlow) k ls[k] hx
      obtain ⟨hn, bse, hto⟩ := (H4.out.below hlow) ls[k] (List.getElem_mem hlt)
      obtain ⟨-, bse0, hto0⟩ := H4.out ls[k] (List.getElem_mem hlt)
      have hlt0 := ownBlock_lt hto0
      clear hto0
      have hT := textsOf_step hx
      have hSn := toksOf_snoc (textsOf (ls.take k)) ls[k].text
      rw [← hT] at hSn
      have hnil : textsOf (ls.take k) = [] ↔ k = 0 := by
        rw [← List.length_eq_zero_iff, textsOf_len, List.length_take]; omega
      have hl1 := hlen k
      have hT10 : k = 0 → toksOf (textsOf (ls.take k)) = [] := fun e => by subst e; rfl
      have hs1 := startL_succ hx
      have hs2 := startL_le ls (k + 1)
      generalize ls[k] = x at *
      obtain ⟨A2, c2', e2, -, hHx, -⟩ := holdsT_of_own (by rw [hn] at hto; exact hto)
      have hdl := dLine_len x.text
      obtain ⟨T2, hT2e⟩ : ∃ T, T = toksOf (textsOf (ls.take (k + 1))) := ⟨_, rfl⟩
      rw [← hT2e] at hSn
      have HT2e := Lib.hid hT2e
      clear hT2e
      generalize toksOf (textsOf (ls.take k)) = T1 at *
      have hsw := hlow.size
      have HX := Lib.hid hx
      have HSn := Lib.hid hSn
      obtain ⟨xt, xr, xn, xc⟩ := x
      simp only at hn hto e2 hHx hdl hSn hs1 c1 c2 hlt0
      subst hn
      obtain ⟨rfl, rfl⟩ : xr = A2 ∧ xc = c2' := by cases e2; exact ⟨rfl, rfl⟩
      clear e2
      have hb1 := below_new wr (.cells #[.string xt, .slice xr (dLine xt).length xc] 75)
      have hz1' : (wr.alloc (.cells #[.string xt, .slice xr (dLine xt).length xc] 75)).heap.size = wr.heap.size + 1 := by simp
      have HH1 := Lib.hid (hHx.below hb1)
      have HO1 := Lib.hid (own_below hown hb1)
      have HB1 := Lib.hid ((Below.refl wr.heap.size wr).trans hb1)
      have hob := ownBlock_ge hown
      have HTO := Lib.hid hto
      have HBN := Lib.hid hb1
      by_cases h0 : k = 0
      · have hT2 : T2 = dLine xt := by rw [hSn, if_pos (hnil.2 h0)]
        have hT1 : T1 = [] := hT10 h0
        clear hSn HSn hnil hHx hto hb1 HX
        have hgt : ¬ (0 : Int) < (k : Int) := by omega
        clear h0 hT10
        go_wp2_with (at_builtin; go_must (refine wpList_append_toks rfl _ _ rfl rfl i0 _ hi0 hz0 hz1 hz2 rfl w.heap.size _ T1.length (tokCells T1) rfl HO1.out xr xc (dLine xt) rfl HH1.out (by omega) (by omega) (by simp; omega) ?_); go_must (intro v1 w3 hown3 hg3))
        go_roundw
        case rel =>
          refine ⟨k + 1, by omega, by go_num, ?_, ((hlow.trans (HB1.out.mono hsw)).grown hg3 (by simp; omega) hob)⟩
          rw [← HT2e.out, hT2]
          rw [hT1] at hown3
          simpa [tokCells] using hown3
        case measure => simp [intOf]; omega
      · have hT2 : T2 = T1 ++ endT :: dLine xt := by rw [hSn, if_neg (fun e => h0 (hnil.1 e))]
        have hgt : (0 : Int) < (k : Int) := by omega
        clear hSn HSn hnil hHx hto hb1 HX
        have HO2 := Lib.hid (own_below HO1.out (below_new _ (.cells #[.int .i64 11, .string ⟨#[10]⟩, .string ⟨#[]⟩] 55)))
        have HH2 := Lib.hid (HH1.out.below (below_new _ (.cells #[.int .i64 11, .string ⟨#[10]⟩, .string ⟨#[]⟩] 55)))
        have hto2 := own_below (own_below HTO.out HBN.out) (below_new _ (.cells #[.int .i64 11, .string ⟨#[10]⟩, .string ⟨#[]⟩] 55))
        have HTO2 := Lib.hid hto2
        have hap : (Value.slice xr (dLine xt).length xc).ownBlock = none ∨ (Value.slice xr (dLine xt).length xc).ownBlock ≠ u3.ownBlock := by
          cases hv : (Value.slice xr (dLine xt).length xc).ownBlock with
          | none => exact Or.inl rfl
          | some g => exact Or.inr (fun e => by have h8 := hlt0 g hv; have h9 := hob g e.symm; omega)
        have hy2 : ((wr.alloc (.cells #[.string xt, .slice xr (dLine xt).length xc] 75)).alloc (.cells #[.int .i64 11, .string ⟨#[10]⟩, .string ⟨#[]⟩] 55)).heap[wr.heap.size]? = some (.cells #[.string xt, .slice xr (dLine xt).length xc] 75 (0, 0)) :=
          ((below_new _ (.cells #[.int .i64 11, .string ⟨#[10]⟩, .string ⟨#[]⟩] 55)).block _ (by simp)).trans (heap_alloc_new wr _)
        have HY2 := Lib.hid hy2
        have HAP := Lib.hid hap
        have HLT := Lib.hid hlt0
        clear hto2 hy2 hap hlt0 h0 hT10
        go_wp2_with (first
          | (at_builtin; refine wpList_append_own _ rfl _ _ 35 rfl w.heap.size 55 i0 _ 3 40 Tryz.underlying35 hi0 hz0 hz1 hz2 rfl (by decide) u3 T1.length (tokCells T1) rfl HO2.out ⟨wr.heap.size + 1, 0, none⟩ 1 1 [.int .i64 11, .string ⟨#[10]⟩, .string ⟨#[]⟩] rfl rfl (World.news_of_block (cs := #[.int .i64 11, .string ⟨#[10]⟩, .string ⟨#[]⟩]) (t := 55) (fr := (0, 0)) (by have := heap_alloc_new (wr.alloc (.cells #[.string xt, .slice xr (dLine xt).length xc] 75)) (.cells #[.int .i64 11, .string ⟨#[10]⟩, .string ⟨#[]⟩] 55); simpa using this)) (by simp [Value.oneCell']) (by unfold maxLen; omega) (by omega) (by simp; omega) ?_; intro v1 w3 hown3 hg3 _; have hy3 := (hg3.block wr.heap.size (by simp; omega) (fun e => own_apart_cells HO2.out HY2.out (by decide) e.symm)).trans HY2.out; have cy3 : w3.cell? ⟨wr.heap.size, 1, none⟩ = some (.slice xr (dLine xt).length xc) := by {simp [World.cell?, hy3]}; have HH3 := Lib.hid (HTO2.out.kept hg3 HAP.out); have HG3 := Lib.hid hg3; have HN3 := Lib.hid hown3; have hz3 := hg3.size; clear hg3 hown3 hy3)
          | (at_builtin; go_must (obtain ⟨A9, c9, e9, -, HH9, -⟩ := holdsT_of_own HH3.out); go_must (cases e9); go_must (refine wpList_append_toks rfl _ _ rfl rfl i0 _ hi0 hz0 hz1 hz2 rfl w.heap.size _ (T1.length + 1) _ rfl HN3.out xr xc (dLine xt) rfl HH9 (by omega) (by omega) (by simp at hz3; omega) ?_); go_must (intro v4 w4 hown4 hg4)))
        go_roundw
        case rel =>
          have hz3' := hz3
          simp at hz3'
          refine ⟨k + 1, by omega, by go_num, ?_, (((hlow.trans (HB1.out.mono hsw)).alloc (by simp; omega) _).grown HG3.out (by simp; omega) hob).grown hg4 (by omega) (ownBlock_ge HN3.out)⟩
          have e : tokCells (T1 ++ endT :: dLine xt) = (tokCells T1 ++ [.int .i64 11, .string ⟨#[10]⟩, .string ⟨#[]⟩]) ++ tokCells (dLine xt) := by
            rw [tokCells_append, show endT :: dLine xt = [endT] ++ dLine xt from rfl, tokCells_append, tokCells_one, endT_cells, List.append_assoc]
          have el : (T1 ++ endT :: dLine xt).length = T1.length + 1 + (dLine xt).length := by simp; omega
          rw [← HT2e.out, hT2, e, el]
          exact hown4
        case measure => simp [intOf]; omega
    · obtain rfl : k = ls.length := by omega
      rw [List.take_length] at hown
      go_wp2_with fail
      go_ret
      exact ⟨_, rfl, hown, hlow⟩
end Go.Proofs.YtflpihedhccdfaaGreatDoor
/-
  A line's tokens: by the program.
-/
namespace Go.Proofs.YtflpihedhccdfaaGreatDoor
open Go Go.RowKit

set_option maxRecDepth 100000 in
set_option maxHeartbeats 4000000 in
theorem Clone_any (B : Option Addr) (c : Nat) (l : List Tok) (w : World) (hl : l.length ≤ 10000) (hB : HoldsT w B l) :
    Calls Tryz.prog 33 #[.slice B l.length c] w fun e w' => ∃ v, e = .returned v ∧ w'.ownsRow w.heap.size 55 3 v l.length (tokCells l) ∧ Below w.heap.size w w' := by
  obtain ⟨i0, hi0, hz0, hz1, hz2⟩ := info_parts infoTok
  cases B with
  | none =>
    have hn : l = [] := by
      cases l with
      | nil => rfl
      | cons x m =>
        obtain ⟨b, off, e, _⟩ := hB 0 x rfl
        cases e
    subst hn
    have hq := Go.Lib.run_eql_slice_nil_nil (P := Tryz.prog) w 0 c Tryz.underlying35
    go_enter Tryz.func33, Tryz.ntmps33
    go_wp2_with fail
    go_ret
    exact ⟨_, rfl, World.ownsRow_nil _ _ _ _, Below.refl _ _⟩
  | some ad =>
    have hown : (w.alloc (.cells #[] 55)).ownsRow w.heap.size 55 3 (.slice (some ⟨w.heap.size, 0, none⟩) 0 0) 0 [] :=
      ⟨rfl, Or.inr ⟨w.heap.size, 0, _, rfl, Nat.le_refl _, heap_alloc_new w _, Nat.le_refl _, by unfold maxLen; omega, rfl, rfl⟩⟩
    have HO := Lib.hid hown
    have HH := Lib.hid (hB.below (below_new w (.cells #[] 55)))
    have HB := Lib.hid (below_new w (.cells #[] 55))
    have hq := Go.Lib.run_eql_slice_some_nil (P := Tryz.prog) w ad l.length c Tryz.underlying35
    have hl0 : (([] : List Tok).length) = 0 := rfl
    go_enter Tryz.func33, Tryz.ntmps33
    go_wp2_with (at_builtin; go_must (refine wpList_append_toks rfl _ _ rfl rfl i0 _ hi0 hz0 hz1 hz2 rfl w.heap.size _ 0 [] rfl HO.out (some ad) c l rfl HH.out (by omega) (by omega) (by simp) ?_); go_must (intro v4 w4 hown4 hg4))
    go_ret
    refine ⟨_, rfl, by simpa using hown4, (HB.out).grown hg4 (by simp) (fun k e => by cases e; exact Nat.le_refl _)⟩

set_option maxRecDepth 100000 in
set_option maxHeartbeats 4000000 in
theorem Line_out (X : Nat) (t : ByteArray) (q i : Int) (w : World) (h : IsLex w X t q) (hi : i < 0 ∨ ((piecesB t).length : Int) ≤ i) :
    Calls Tryz.prog 17 #[.pointer (some ⟨X, 0, none⟩), .int .i64 i] w fun e w' => e = .returned (.slice none 0 0) ∧ w' = w := by
  obtain ⟨base, v, ls, h1, h2, h3, h4⟩ := h
  obtain ⟨A, c, rfl, -, -, -⟩ := holdsL_of_own h2
  have hlen := textsOf_len ls
  rw [h3] at hlen
  have c0 : w.cell? ⟨X, 0, none⟩ = some (.slice A ls.length c) := by simp [World.cell?, h1]
  rw [hlen] at hi
  clear h1 h2 h3 h4 hlen
  by_cases h0 : i < 0
  · clear hi
    go_enter Tryz.func17, Tryz.ntmps17
    go_wp2_with fail
    go_ret
    exact ⟨rfl, rfl⟩
  · have hge : (ls.length : Int) ≤ i := by omega
    clear hi
    go_enter Tryz.func17, Tryz.ntmps17
    go_wp2_with fail
    go_ret
    exact ⟨rfl, rfl⟩

set_option maxRecDepth 100000 in
set_option maxHeartbeats 4000000 in
theorem Line_in (X : Nat) (t p : ByteArray) (q : Int) (k : Nat) (w : World) (h : IsLex w X t q) (ht : t.size ≤ 4000) (hp : (piecesB t)[k]? = some p) :
    Calls Tryz.prog 17 #[.pointer (some ⟨X, 0, none⟩), .int .i64 k] w fun e w' => ∃ v, e = .returned v ∧ w'.ownsRow w.heap.size 55 3 v (dLine p).length (tokCells (dLine p)) ∧ Below w.heap.size w w' := by
  obtain ⟨base, v, ls, h1, h2, h3, h4⟩ := h
  obtain ⟨A, c, rfl, -, hH, -⟩ := holdsL_of_own h2
  have hlen := textsOf_len ls
  rw [h3] at hlen
  have hpl := pieces_le t
  have c0 : w.cell? ⟨X, 0, none⟩ = some (.slice A ls.length c) := by simp [World.cell?, h1]
  have hk : k < ls.length := by rw [← hlen]; exact (List.getElem?_eq_some_iff.1 hp).1
  have hx := List.getElem?_eq_getElem hk
  obtain ⟨b, off, rfl, c1, c2⟩ := hH k ls[k] hx
  obtain ⟨hn, bse, hto⟩ := h4 ls[k] (List.getElem_mem hk)
  have hpt : ls[k].text = p := by
    have e : (textsOf ls)[k]? = some p := by rw [h3]; exact hp
    unfold textsOf at e
    rw [List.getElem?_map, hx] at e
    simpa using e
  have hps : p.size ≤ t.size := piece_small hp
  have hbd : ls.length ≤ 5000 := by omega
  generalize ls[k] = x at *
  obtain ⟨xt, xr, xn, xc⟩ := x
  simp only at hn hto hpt c1 c2
  subst hpt
  subst hn
  obtain ⟨A2, c2', e2, -, hHx, -⟩ := holdsT_of_own hto
  obtain ⟨rfl, rfl⟩ : xr = A2 ∧ xc = c2' := by cases e2; exact ⟨rfl, rfl⟩
  have hdl := dLine_len xt
  have HC := Lib.hid (Clone_any xr xc (dLine xt) w (by omega) hHx)
  clear h1 h2 h3 h4 hlen hx hto hHx hH hp e2 hpl
  go_enter Tryz.func17, Tryz.ntmps17
  go_wp2_with fail
  refine HC.out.mono ?_
  rintro e w2 ⟨v2, rfl, ho2, hb2⟩
  have HO2 := Lib.hid ho2
  clear ho2
  go_wp2_with fail
  go_ret
  exact ⟨_, rfl, HO2.out, hb2⟩
end Go.Proofs.YtflpihedhccdfaaGreatDoor
