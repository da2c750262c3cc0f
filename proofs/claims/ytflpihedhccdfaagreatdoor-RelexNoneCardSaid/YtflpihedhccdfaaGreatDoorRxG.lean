/-
  The first so many splices: by the laws of layer 1 (Edit's few, turned).
-/
import Derived.Test.YtflpihedhccdfaaGreatDoorProg
import Derived.Test.YtflpihedhccdfaaGreatDoorReg
import Derived.WalkKit
import Derived.WalkSpells
import Derived.WalkLawsBesides
import Derived.Lib.Hide
import Derived.Lib.MinMax
import Derived.Deep.QuietTactic
import Derived.BigQuiet
import Derived.OwnWalk
import Derived.Deep.AppendLies
import Derived.KernelRfl
import Derived.Test.YtflpihedhccdfaaGreatDoorRxC
import Derived.Test.YtflpihedhccdfaaGreatDoorLxM2
set_option linter.unusedSimpArgs false
set_option linter.unusedVariables false
namespace Go.Proofs.YtflpihedhccdfaaGreatDoor
open Go.RowKit

structure Act5 where
  pos : Int
  n : Int
  s : ByteArray
def Act5.cells (x : Act5) : List Value := [.int .i64 x.pos, .int .i64 x.n, .string x.s]
/-- The slice value '.slice A n c' holds, in w, the edits l. -/
def HoldsC (w : World) (A : Option Addr) (l : List Act5) : Prop :=
  ∀ (k : Nat) (x : Act5), l[k]? = some x → ∃ b off, A = some ⟨b, off, none⟩ ∧ w.cell? ⟨b, off + k * 3, none⟩ = some (.int .i64 x.pos) ∧
    w.cell? ⟨b, off + k * 3 + 1, none⟩ = some (.int .i64 x.n) ∧ w.cell? ⟨b, off + k * 3 + 2, none⟩ = some (.string x.s)

theorem HoldsC.below {w w' : World} {A : Option Addr} {l : List Act5} (h : HoldsC w A l) (hb : Below w.heap.size w w') : HoldsC w' A l := fun k x hx => by
  obtain ⟨b, off, e, h1, h2, h3⟩ := h k x hx
  have hl : b < w.heap.size := cell_lt h1
  exact ⟨b, off, e, (hb.cell (p := ⟨b, _, none⟩) hl).trans h1, (hb.cell (p := ⟨b, _, none⟩) hl).trans h2, (hb.cell (p := ⟨b, _, none⟩) hl).trans h3⟩

theorem HoldsC.nil (w : World) (A : Option Addr) : HoldsC w A [] := fun k x hx => by simp at hx
def actCells (l : List Act5) : List Value := l.flatMap Act5.cells

theorem actCells_length (l : List Act5) : (actCells l).length = l.length * 3 := by
  induction l with
  | nil => rfl
  | cons x l ih => simp [actCells, Act5.cells] at ih ⊢; omega

theorem actCells_append (l m : List Act5) : actCells (l ++ m) = actCells l ++ actCells m := by simp [actCells]

theorem actCells_one (x : Act5) : actCells [x] = x.cells := by simp [actCells]

theorem actCells_get (l : List Act5) : ∀ (k : Nat) (x : Act5), l[k]? = some x → (actCells l)[k * 3]? = some (.int .i64 x.pos) ∧ (actCells l)[k * 3 + 1]? = some (.int .i64 x.n) ∧ (actCells l)[k * 3 + 2]? = some (.string x.s) := by
  induction l with
  | nil => intro k x h; simp at h
  | cons y l ih =>
    intro k x h
    have e : actCells (y :: l) = [.int .i64 y.pos, .int .i64 y.n, .string y.s] ++ actCells l := by simp [actCells, Act5.cells]
    cases k with
    | zero =>
      simp at h
      subst h
      rw [e]
      exact ⟨rfl, rfl, rfl⟩
    | succ k =>
      have h1 := ih k x (by simpa using h)
      rw [e]
      refine ⟨?_, ?_, ?_⟩
      · rw [List.getElem?_append_right (by simp; omega)]
        rw [← h1.1]; congr 1; simp; omega
      · rw [List.getElem?_append_right (by simp; omega)]
        rw [← h1.2.1]; congr 1; simp; omega
      · rw [List.getElem?_append_right (by simp; omega)]
        rw [← h1.2.2]; congr 1; simp; omega

theorem holdsC_of_own {w : World} {base : Nat} {e : TypeId} {v : Value} {n : Nat} {l : List Act5} (h : w.ownsRow base e 3 v n (actCells l)) :
    ∃ A c, v = .slice A l.length c ∧ n = l.length ∧ HoldsC w A l ∧ l.length ≤ c := by
  have hn : n = l.length := by have h1 := h.1; rw [actCells_length] at h1; omega
  subst hn
  rcases h.2 with ⟨rfl, h0⟩ | ⟨g, cap, cur, rfl, _, _, hcap, _⟩
  · have : l = [] := List.eq_nil_of_length_eq_zero h0
    subst this
    exact ⟨none, 0, rfl, rfl, HoldsC.nil _ _, Nat.le_refl _⟩
  · refine ⟨some ⟨g, 0, none⟩, cap, rfl, rfl, fun k x hx => ?_, hcap⟩
    have hc := h.cells (g := g) rfl
    obtain ⟨h1, h2, h3⟩ := actCells_get l k x hx
    have c1 := hc _ _ h1
    have c2 := hc _ _ h2
    have c3 := hc _ _ h3
    have ea : ∀ j, (⟨g, 0, none⟩ : Addr).add j = ⟨g, 0 + j, none⟩ := fun j => by
      unfold Addr.add
      split
      · rename_i h; subst h; rfl
      · rfl
    rw [ea] at c1 c2 c3
    exact ⟨g, 0, rfl, c1, by rw [Nat.add_assoc]; exact c2, by rw [Nat.add_assoc]; exact c3⟩

/-- What 'Few' makes of a splice. -/
def few51 (x : Act5) : Act5 := ⟨x.pos, x.n, cut4010 x.s⟩
def fewTo5 (l : List Act5) (k : Nat) : List Act5 := (l.take k).map few51

theorem fewTo5_succ (l : List Act5) (k : Nat) (h : k < l.length) : fewTo5 l (k + 1) = fewTo5 l k ++ [few51 l[k]] := by
  unfold fewTo5
  rw [List.take_succ_eq_append_getElem h, List.map_append]; rfl
theorem infoAct : (Tryz.prog.info? 41).map (fun i => (i.zero, i.size, i.bytes)) = some (some (.agg #[.int .i64 0, .int .i64 0, .string ByteArray.empty]), 3, 32) := by kernel_rfl

set_option maxRecDepth 100000 in
set_option maxHeartbeats 1000000 in
theorem Few_any (m : Nat) (A : Option Addr) (c : Nat) (l : List Act5) (w : World) (hm : m ≤ 1000) (hl : l.length ≤ maxLen) (hs : ∀ (k : Nat) (x : Act5), l[k]? = some x → x.s.size ≤ maxLen) (hh : HoldsC w A l) :
    Calls Tryz.prog 18 #[.slice A l.length c, .int .i64 m] w fun e w' => ∃ v, e = .returned v ∧ w'.ownsRow w.heap.size 41 3 v (fewTo5 l m).length (actCells (fewTo5 l m)) ∧ Below w.heap.size w w' := by
  unfold maxLen at hl
  obtain ⟨i0, hi0, hz0, hz1, hz2⟩ := info_parts infoAct
  go_enter Tryz.func18, Tryz.ntmps18
  go_wp2
  go_loopw [5, 6] (fun v i wr => ∃ (k : Nat), k ≤ l.length ∧ k ≤ m ∧ i = .int .i64 k ∧ wr.ownsRow w.heap.size 41 3 v k (actCells (fewTo5 l k)) ∧ Below w.heap.size w wr)
    (fun _ i _ => m - (intOf i).toNat)
  case atStart => exact ⟨0, by omega, by omega, rfl, World.ownsRow_nil _ _ _ _, Below.refl _ _⟩
  case round =>
    obtain ⟨k, hk, hkm, rfl, hown, hb⟩ := hrel
    by_cases hlt : k < l.length
    · by_cases h20 : k < m
      · have hkx := List.getElem?_eq_getElem hlt
        obtain ⟨b, off, rfl, c1, c2, c3⟩ := (hh.below hb) k l[k] hkx
        have hsz := hs k l[k] (List.getElem?_eq_getElem hlt)
        have hsn := fewTo5_succ l k hlt
        generalize l[k] = x at *
        have Hsn := Lib.hid hsn
        clear hsn
        have HC := Lib.hid (fun u => Cut_any x.s u hsz)
        have hlb : b < w.heap.size := by
          obtain ⟨b', off', e, q1, _⟩ := hh k x hkx
          cases e
          exact cell_lt q1
        have hbs := hb.size
        have hob := ownBlock_ge hown
        have hlo : u5.ownBlock ≠ some b := fun e => by have := hob _ e; omega
        go_wp2
        refine wp_region_ord (S := fun w' => w'.cell? ⟨b, off + k * 3, none⟩ = some (.int .i64 x.pos) ∧ w'.cell? ⟨b, off + k * 3 + 1, none⟩ = some (.int .i64 x.n) ∧ w'.cell? ⟨b, off + k * 3 + 2, none⟩ = some (.string x.s)) [0, 1, 2, 3, 4, 5, 6, 7, 8, 9, 10, 11, 12, 13, 14, 15] [16, 17, 18, 19, 20] (by kernel_rfl) (by kernel_rfl) (fun _ _ _ _ _ h => h) ⟨c1, c2, c3⟩ ?_
        simp only [pick, List.filterMap_cons, List.filterMap_nil, List.getElem?_toArray, List.getElem?_cons_zero, List.getElem?_cons_succ]
        repeat (refine wpHead_step (v := ?_) rfl ?_ ?_; rotate_left; (focus (rintro w1 ⟨d1, d2, d3⟩; go_simp; try with_reducible rfl)); simp only [Act.put, List.setIfInBounds_toArray, List.set_cons_zero, List.set_cons_succ])
        refine wpHead_nil ?_
        have lt1 : b < (World.drew wr).heap.size := by simp; omega
        refine wpTail_step rfl (fun K hK => ?_)
        go_wp2_with fail
        refine (HC.out _).mono ?_
        rintro r w' ⟨rfl, rfl⟩
        go_wp2_with fail
        refine hK _ _ ⟨c1, c2, c3⟩ ?_
        clear hK K
        try simp only [Act.put, List.setIfInBounds_toArray, List.set_cons_zero, List.set_cons_succ]
        refine wpTail_step rfl (fun K hK => ?_)
        go_wp2_with fail
        refine hK _ _ ⟨c1, c2, c3⟩ ?_
        clear hK K
        try simp only [Act.put, List.setIfInBounds_toArray, List.set_cons_zero, List.set_cons_succ]
        refine wpTail_step rfl (fun K hK => ?_)
        go_wp2_with fail
        refine hK _ _ ⟨(World.cell?_alloc_lt _ _ _ lt1).trans c1, (World.cell?_alloc_lt _ _ _ lt1).trans c2, (World.cell?_alloc_lt _ _ _ lt1).trans c3⟩ ?_
        clear hK K
        try simp only [Act.put, List.setIfInBounds_toArray, List.set_cons_zero, List.set_cons_succ]
        refine wpTail_step rfl (fun K hK => ?_)
        refine wp_append_own _ _ _ 38 rfl w.heap.size 41 i0 _ 3 32 Tryz.underlying38 hi0 hz0 hz1 hz2 rfl (by decide) u5 k (actCells (fewTo5 l k)) rfl ((hown.alloc _).drew) ⟨wr.heap.size, 0, none⟩ 1 1 (Act5.cells (few51 x)) rfl rfl (World.news_of_block (cs := (Act5.cells (few51 x)).toArray) (t := 41) (fr := (0, 0)) (heap_alloc_new wr _)) (by simp [Act5.cells, Value.oneCell']) (by unfold maxLen; omega) (by omega) (by simp; omega) (fun v' w1 hown1 hgrow1 _ => ?_)
        have lt2 : ∀ o, (⟨b, o, none⟩ : Addr).block < (World.drew (wr.alloc (.cells (Act5.cells (few51 x)).toArray 41))).heap.size := fun o => by simp; omega
        have d1 := (hgrow1.cell_far ⟨b, off + k * 3, none⟩ (lt2 _) (Ne.symm hlo)).trans ((World.cell?_alloc_lt _ _ _ lt1).trans c1)
        have d2 := (hgrow1.cell_far ⟨b, off + k * 3 + 1, none⟩ (lt2 _) (Ne.symm hlo)).trans ((World.cell?_alloc_lt _ _ _ lt1).trans c2)
        have d3 := (hgrow1.cell_far ⟨b, off + k * 3 + 2, none⟩ (lt2 _) (Ne.symm hlo)).trans ((World.cell?_alloc_lt _ _ _ lt1).trans c3)
        refine hK _ _ ⟨d1, d2, d3⟩ ?_
        clear hK K
        try simp only [Act.put, List.setIfInBounds_toArray, List.set_cons_zero, List.set_cons_succ]
        refine wpTail_step rfl (fun K hK => ?_)
        go_wp2_with fail
        refine hK _ _ ⟨d1, d2, d3⟩ ?_
        clear hK K
        try simp only [Act.put, List.setIfInBounds_toArray, List.set_cons_zero, List.set_cons_succ]
        refine wpTail_nil ?_
        rw [← actCells_one, ← actCells_append, ← Hsn.out] at hown1
        go_wp2
        go_roundw
        case rel => exact ⟨k + 1, by omega, by omega, by go_num, hown1, ((hb.alloc hb.size _).drew).grown hgrow1 (by have := hb.size; simp; omega) (ownBlock_ge hown)⟩
        case measure => simp [intOf]; omega
      · obtain rfl : k = m := by omega
        have hlen : (fewTo5 l k).length = k := by unfold fewTo5; rw [List.length_map, List.length_take]; omega
        have HLen := Lib.hid hlen
        clear hlen
        go_wp2
        go_ret
        exact ⟨_, rfl, by rw [HLen.out]; exact hown, hb⟩
    · obtain rfl : k = l.length := by omega
      have e : fewTo5 l l.length = fewTo5 l m := by unfold fewTo5; rw [List.take_of_length_le (Nat.le_refl _), List.take_of_length_le (by omega)]
      have hlen : (fewTo5 l l.length).length = l.length := by unfold fewTo5; rw [List.length_map, List.length_take]; omega
      rw [e] at hlen hown
      have HLen := Lib.hid hlen
      clear e hlen
      go_wp2
      go_ret
      exact ⟨_, rfl, by rw [HLen.out]; exact hown, hb⟩
end Go.Proofs.YtflpihedhccdfaaGreatDoor
