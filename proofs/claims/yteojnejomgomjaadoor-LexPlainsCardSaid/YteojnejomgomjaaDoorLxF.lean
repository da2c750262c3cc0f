/-
  The walk of 'Few'.
-/
import Derived.Test.YteojnejomgomjaaDoorProg
import Derived.Test.YteojnejomgomjaaDoorReg
import Derived.WalkKit
import Derived.WalkSpells
import Derived.WalkLawsBesides
import Derived.Lib.Hide
import Derived.Lib.MinMax
import Derived.Deep.QuietTactic
import Derived.BigQuiet
import Derived.OwnWalk
import Derived.Deep.AppendLies
import Derived.KernelRfl
import Derived.Test.YteojnejomgomjaaDoorLxT
set_option linter.unusedSimpArgs false
set_option linter.unusedVariables false
namespace Go.Proofs.YteojnejomgomjaaDoor
open Go.RowKit

theorem infoTok : (Tryd.prog.info? 27).map (fun i => (i.zero, i.size, i.bytes)) = some (some (.agg #[.int .i64 0, .string ByteArray.empty, .string ByteArray.empty]), 3, 40) := by kernel_rfl

set_option maxHeartbeats 4000000 in
theorem cut_any (s : ByteArray) (w : World) (hs : s.size ≤ maxLen) :
    Calls Tryd.prog 11 #[.string s] w fun e w' => e = .returned (.string (cut300 s)) ∧ w' = w := by
  unfold maxLen at hs
  unfold cut300
  have e : (min (s.size : Int) 300).toNat = min s.size 300 := by omega
  go_enter Tryd.func11, Tryd.ntmps11
  go_wp2
  go_ret
  exact ⟨by rw [← e]; rfl, rfl⟩

set_option maxRecDepth 100000 in
set_option maxHeartbeats 1000000 in
theorem few_any (A : Option Addr) (c : Nat) (l : List Tok) (w : World) (hl : l.length ≤ maxLen) (hs : ∀ (k : Nat) (x : Tok), l[k]? = some x → x.text.size ≤ maxLen ∧ x.glyph.size ≤ maxLen) (hh : HoldsT w A l) :
    Calls Tryd.prog 15 #[.slice A l.length c] w fun e w' => ∃ B d, e = .returned (.slice B (few l).length d) ∧ HoldsT w' B (few l) ∧ (few l).length ≤ d ∧ Below w.heap.size w w' := by
  unfold maxLen at hl
  obtain ⟨i0, hi0, hz0, hz1, hz2⟩ := info_parts infoTok
  go_enter Tryd.func15, Tryd.ntmps15
  go_wp2
  go_loopw [3, 4] (fun v i wr => ∃ (k : Nat), k ≤ l.length ∧ k ≤ 60 ∧ i = .int .i64 k ∧ wr.ownsRow w.heap.size 27 3 v k (tokCells (fewTo l k)) ∧ Below w.heap.size w wr)
    (fun _ i _ => 60 - (intOf i).toNat)
  case atStart => exact ⟨0, by omega, by omega, rfl, World.ownsRow_nil _ _ _ _, Below.refl _ _⟩
  case round =>
    obtain ⟨k, hk, hk60, rfl, hown, hb⟩ := hrel
    by_cases hlt : k < l.length
    · by_cases h60 : k < 60
      · have hkx := List.getElem?_eq_getElem hlt
        obtain ⟨b, off, rfl, c1, c2, c3⟩ := (hh.below hb) k l[k] hkx
        have hsz := hs k l[k] (List.getElem?_eq_getElem hlt)
        have hsn := fewTo_succ l k hlt
        generalize l[k] = x at *
        have Hsn := Lib.hid hsn
        clear hsn
        unfold maxLen at hsz
        obtain ⟨hsz1, hsz2⟩ := hsz
        have HC := Lib.hid cut_any
        have hlb : b < w.heap.size := by
          obtain ⟨b', off', e, q1, _⟩ := hh k x hkx
          cases e
          exact cell_lt q1
        have hbs := hb.size
        have hob := ownBlock_ge hown
        have hlo : u3.ownBlock ≠ some b := fun e => by have := hob _ e; omega
        go_wp2
        refine wp_region_ord (S := fun w' => w'.cell? ⟨b, off + k * 3, none⟩ = some (.int .i64 x.kind) ∧ w'.cell? ⟨b, off + k * 3 + 1, none⟩ = some (.string x.text) ∧ w'.cell? ⟨b, off + k * 3 + 2, none⟩ = some (.string x.glyph)) [0, 1, 2, 3, 4, 5, 6, 7, 8, 9, 10, 12, 13, 14, 15, 16] [11, 17, 18, 19, 20, 21] (by kernel_rfl) (by kernel_rfl) (fun _ _ _ _ _ h => h) ⟨c1, c2, c3⟩ ?_
        simp only [pick, List.filterMap_cons, List.filterMap_nil, List.getElem?_toArray, List.getElem?_cons_zero, List.getElem?_cons_succ]
        repeat (refine wpHead_step (v := ?_) rfl ?_ ?_; rotate_left; (focus (rintro w1 ⟨d1, d2, d3⟩; go_simp; try with_reducible rfl)); simp only [Act.put, List.setIfInBounds_toArray, List.set_cons_zero, List.set_cons_succ])
        refine wpHead_nil ?_
        have lt1 : b < (World.drew wr).heap.size := by simp; omega
        refine wpTail_step rfl (fun K hK => ?_)
        go_wp2_with fail
        refine (HC.out _ _ hsz1).mono ?_
        rintro r w' ⟨rfl, rfl⟩
        go_wp2_with fail
        refine hK _ _ ⟨c1, c2, c3⟩ ?_
        clear hK K
        try simp only [Act.put, List.setIfInBounds_toArray, List.set_cons_zero, List.set_cons_succ]
        refine wpTail_step rfl (fun K hK => ?_)
        go_wp2_with fail
        refine (HC.out _ _ hsz2).mono ?_
        rintro r w' ⟨rfl, rfl⟩
        go_wp2_with fail
        refine hK _ _ ⟨c1, c2, c3⟩ ?_
        clear hK K
        try simp only [Act.put, List.setIfInBounds_toArray, List.set_cons_zero, List.set_cons_succ]
        refine wpTail_step rfl (fun K hK => ?_)
        go_wp2_with fail
        refine hK _ _ ⟨c1, c2, c3⟩ ?_
        clear hK K
        try simp only [Act.put, List.setIfInBounds_toArray, List.set_cons_zero, List.set_cons_succ]
        refine wpTail_step rfl (fun K hK => ?_)
        go_wp2_with fail
        refine hK _ _ ⟨(World.cell?_alloc_lt _ _ _ lt1).trans c1, (World.cell?_alloc_lt _ _ _ lt1).trans c2, (World.cell?_alloc_lt _ _ _ lt1).trans c3⟩ ?_
        clear hK K
        try simp only [Act.put, List.setIfInBounds_toArray, List.set_cons_zero, List.set_cons_succ]
        refine wpTail_step rfl (fun K hK => ?_)
        refine wp_append_own _ _ _ 23 rfl w.heap.size 27 i0 _ 3 40 Tryd.underlying23 hi0 hz0 hz1 hz2 rfl (by decide) u3 k (tokCells (fewTo l k)) rfl ((hown.alloc _).drew) ⟨wr.heap.size, 0, none⟩ 1 1 (Tok.cells (few1 x)) rfl rfl (World.news_of_block (cs := (Tok.cells (few1 x)).toArray) (t := 27) (fr := (0, 0)) (heap_alloc_new wr _)) (by simp [Tok.cells, Value.oneCell']) (by unfold maxLen; omega) (by omega) (by simp; omega) (fun v' w1 hown1 hgrow1 _ => ?_)
        have lt2 : ∀ o, (⟨b, o, none⟩ : Addr).block < (World.drew (wr.alloc (.cells (Tok.cells (few1 x)).toArray 27))).heap.size := fun o => by simp; omega
        have d1 := (hgrow1.cell_far ⟨b, off + k * 3, none⟩ (lt2 _) (Ne.symm hlo)).trans ((World.cell?_alloc_lt _ _ _ lt1).trans c1)
        have d2 := (hgrow1.cell_far ⟨b, off + k * 3 + 1, none⟩ (lt2 _) (Ne.symm hlo)).trans ((World.cell?_alloc_lt _ _ _ lt1).trans c2)
        have d3 := (hgrow1.cell_far ⟨b, off + k * 3 + 2, none⟩ (lt2 _) (Ne.symm hlo)).trans ((World.cell?_alloc_lt _ _ _ lt1).trans c3)
        refine hK _ _ ⟨d1, d2, d3⟩ ?_
        clear hK K
        try simp only [Act.put, List.setIfInBounds_toArray, List.set_cons_zero, List.set_cons_succ]
        refine wpTail_step rfl (fun K hK => ?_)
        go_wp2_with fail
        refine hK _ _ ⟨d1, d2, d3⟩ ?_
        clear hK K
        try simp only [Act.put, List.setIfInBounds_toArray, List.set_cons_zero, List.set_cons_succ]
        refine wpTail_nil ?_
        rw [← tokCells_one, ← tokCells_append, ← Hsn.out] at hown1
        go_wp2
        go_roundw
        case rel => exact ⟨k + 1, by omega, by omega, by go_num, hown1, ((hb.alloc hb.size _).drew).grown hgrow1 (by have := hb.size; simp; omega) (ownBlock_ge hown)⟩
        case measure => simp [intOf]; omega
      · obtain rfl : k = 60 := by omega
        go_wp2
        go_ret
        obtain ⟨B, d, rfl, _, hH, hcap⟩ := holdsT_of_own hown
        exact ⟨B, d, rfl, hH, hcap, hb⟩
    · obtain rfl : k = l.length := by omega
      have e := fewTo_all l hk60
      have He := Lib.hid e
      clear e
      go_wp2
      go_ret
      obtain ⟨B, d, rfl, _, hH, hcap⟩ := holdsT_of_own hown
      rw [He.out] at hH hcap
      exact ⟨B, d, by rw [He.out]; rfl, hH, hcap, hb⟩
end Go.Proofs.YteojnejomgomjaaDoor
