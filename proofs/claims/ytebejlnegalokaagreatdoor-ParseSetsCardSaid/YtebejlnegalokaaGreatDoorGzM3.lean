/-
  XGrpF, turned: what this seat needs of it.
-/
import Derived.Test.YtebejlnegalokaaGreatDoorProg
import Derived.Test.YtebejlnegalokaaGreatDoorReg
import Derived.WalkKit
import Derived.WalkSpells
import Derived.WalkLawsBesides
import Derived.Lib.Hide
import Derived.Lib.MinMax
import Derived.Deep.QuietTactic
import Derived.BigQuiet
import Derived.OwnWalk
import Derived.Deep.AppendLies
import Derived.KernelRfl
import Derived.Test.YtebejlnegalokaaGreatDoorReg
import Derived.WalkKit
import Derived.Below
import Derived.Laws.OwnMore
import Derived.Deep.Draws
import Derived.Deep.AppendLies
import Derived.ChangeMaps5
import Derived.Deep.Slices
import Derived.WideShapes
import Derived.Test.YtebejlnegalokaaGreatDoorBytes
import Derived.LaidEql
import Derived.Stop.Asserts
import Derived.RowKitTokens
import Derived.Test.YtebejlnegalokaaGreatDoorMap
import Derived.ArgAppend
import Derived.Laws.Rows
import Derived.Deep.RegionLaw
import Derived.Test.YtebejlnegalokaaGreatDoorGzM2
import Derived.Maps.AppendAt
import Derived.WalkSmall
import Derived.OneCell
import Derived.Test.YtebejlnegalokaaGreatDoorRegG
import Derived.RangeFuncNested
import Derived.RangeFuncBound
import Derived.RangeFuncCalls
import Derived.RangeFuncLeaves
import Derived.RangeFuncBox
import Derived.Shelf.Abstract
import Derived.Test.YtebejlnegalokaaGreatDoorKeep
import Derived.Test.YtebejlnegalokaaGreatDoorJoint
set_option linter.unusedSimpArgs false
set_option linter.unusedVariables false
namespace Go.Proofs.YtebejlnegalokaaGreatDoor.Gz
open Go.RowKit
theorem infoTok : (Tryz.prog.info? 37).map (fun i => (i.zero, i.size, i.bytes)) = some (some (.agg #[.int .i64 0, .string ByteArray.empty, .string ByteArray.empty]), 3, 40) := by kernel_rfl
set_option maxHeartbeats 4000000 in
theorem cut_any (s : ByteArray) (w : World) (hs : s.size ≤ maxLen) :
    Calls Tryz.prog 30 #[.string s] w fun e w' => e = .returned (.string (cut300 s)) ∧ w' = w := by
  unfold maxLen at hs
  unfold cut300
  have e : (min (s.size : Int) 300).toNat = min s.size 300 := by omega
  go_enter Tryz.func30, Tryz.ntmps30
  go_wp2
  go_ret
  exact ⟨by rw [← e]; rfl, rfl⟩
set_option maxRecDepth 100000 in
set_option maxHeartbeats 1000000 in
theorem few_any (A : Option Addr) (c : Nat) (l : List Tok) (w : World) (hl : l.length ≤ maxLen) (hs : ∀ (k : Nat) (x : Tok), l[k]? = some x → x.text.size ≤ maxLen ∧ x.glyph.size ≤ maxLen) (hh : HoldsT w A l) :
    Calls Tryz.prog 15 #[.slice A l.length c] w fun e w' => ∃ B d, e = .returned (.slice B (few l).length d) ∧ HoldsT w' B (few l) ∧ (few l).length ≤ d ∧ Below w.heap.size w w' := by
  unfold maxLen at hl
  obtain ⟨i0, hi0, hz0, hz1, hz2⟩ := info_parts infoTok
  go_enter Tryz.func15, Tryz.ntmps15
  go_wp2
  go_loopw [3, 4] (fun v i wr => ∃ (k : Nat), k ≤ l.length ∧ k ≤ 60 ∧ i = .int .i64 k ∧ wr.ownsRow w.heap.size 37 3 v k (tokCells (fewTo l k)) ∧ Below w.heap.size w wr)
    (fun _ i _ => 60 - (intOf i).toNat)
  case atStart => exact ⟨0, by omega, by omega, rfl, World.ownsRow_nil _ _ _ _, Below.refl _ _⟩
  case round =>
    obtain ⟨k, hk, hk60, rfl, hown, hb⟩ := hrel
    by_cases hlt : k < l.length
    · by_cases h60 : k < 60
      · have hkx := List.getElem?_eq_getElem hlt
        obtain ⟨b, off, rfl, c1, c2, c3⟩ := (hh.below hb) k l[k] hkx
        have hsz := hs k l[k] (List.getElem?_eq_getElem hlt)
        have hsn := fewTo_succ l k hlt
        generalize l[k] = x at *
        have Hsn := Lib.hid hsn
        clear hsn
        unfold maxLen at hsz
        obtain ⟨hsz1, hsz2⟩ := hsz
        have HC := Lib.hid cut_any
        have hlb : b < w.heap.size := by
          obtain ⟨b', off', e, q1, _⟩ := hh k x hkx
          cases e
          exact cell_lt q1
        have hbs := hb.size
        have hob := ownBlock_ge hown
        have hlo : u3.ownBlock ≠ some b := fun e => by have := hob _ e; omega
        go_wp2
        refine wp_region_ord (S := fun w' => w'.cell? ⟨b, off + k * 3, none⟩ = some (.int .i64 x.kind) ∧ w'.cell? ⟨b, off + k * 3 + 1, none⟩ = some (.string x.text) ∧ w'.cell? ⟨b, off + k * 3 + 2, none⟩ = some (.string x.glyph)) [0, 1, 2, 3, 4, 5, 6, 7, 8, 9, 10, 12, 13, 14, 15, 16] [11, 17, 18, 19, 20, 21] (by kernel_rfl) (by kernel_rfl) (fun _ _ _ _ _ h => h) ⟨c1, c2, c3⟩ ?_
        simp only [pick, List.filterMap_cons, List.filterMap_nil, List.getElem?_toArray, List.getElem?_cons_zero, List.getElem?_cons_succ]
        repeat (refine wpHead_step (v := ?_) rfl ?_ ?_; rotate_left; (focus (rintro w1 ⟨d1, d2, d3⟩; go_simp; try with_reducible rfl)); simp only [Act.put, List.setIfInBounds_toArray, List.set_cons_zero, List.set_cons_succ])
        refine wpHead_nil ?_
        have lt1 : b < (World.drew wr).heap.size := by simp; omega
        refine wpTail_step rfl (fun K hK => ?_)
        go_wp2_with fail
        refine (HC.out _ _ hsz1).mono ?_
        rintro r w' ⟨rfl, rfl⟩
        go_wp2_with fail
        refine hK _ _ ⟨c1, c2, c3⟩ ?_
        clear hK K
        try simp only [Act.put, List.setIfInBounds_toArray, List.set_cons_zero, List.set_cons_succ]
        refine wpTail_step rfl (fun K hK => ?_)
        go_wp2_with fail
        refine (HC.out _ _ hsz2).mono ?_
        rintro r w' ⟨rfl, rfl⟩
        go_wp2_with fail
        refine hK _ _ ⟨c1, c2, c3⟩ ?_
        clear hK K
        try simp only [Act.put, List.setIfInBounds_toArray, List.set_cons_zero, List.set_cons_succ]
        refine wpTail_step rfl (fun K hK => ?_)
        go_wp2_with fail
        refine hK _ _ ⟨c1, c2, c3⟩ ?_
        clear hK K
        try simp only [Act.put, List.setIfInBounds_toArray, List.set_cons_zero, List.set_cons_succ]
        refine wpTail_step rfl (fun K hK => ?_)
        go_wp2_with fail
        refine hK _ _ ⟨(World.cell?_alloc_lt _ _ _ lt1).trans c1, (World.cell?_alloc_lt _ _ _ lt1).trans c2, (World.cell?_alloc_lt _ _ _ lt1).trans c3⟩ ?_
        clear hK K
        try simp only [Act.put, List.setIfInBounds_toArray, List.set_cons_zero, List.set_cons_succ]
        refine wpTail_step rfl (fun K hK => ?_)
        refine wp_append_own _ _ _ 34 rfl w.heap.size 37 i0 _ 3 40 Tryz.underlying34 hi0 hz0 hz1 hz2 rfl (by decide) u3 k (tokCells (fewTo l k)) rfl ((hown.alloc _).drew) ⟨wr.heap.size, 0, none⟩ 1 1 (Tok.cells (few1 x)) rfl rfl (World.news_of_block (cs := (Tok.cells (few1 x)).toArray) (t := 37) (fr := (0, 0)) (heap_alloc_new wr _)) (by simp [Tok.cells, Value.oneCell']) (by unfold maxLen; omega) (by omega) (by simp; omega) (fun v' w1 hown1 hgrow1 _ => ?_)
        have lt2 : ∀ o, (⟨b, o, none⟩ : Addr).block < (World.drew (wr.alloc (.cells (Tok.cells (few1 x)).toArray 37))).heap.size := fun o => by simp; omega
        have d1 := (hgrow1.cell_far ⟨b, off + k * 3, none⟩ (lt2 _) (Ne.symm hlo)).trans ((World.cell?_alloc_lt _ _ _ lt1).trans c1)
        have d2 := (hgrow1.cell_far ⟨b, off + k * 3 + 1, none⟩ (lt2 _) (Ne.symm hlo)).trans ((World.cell?_alloc_lt _ _ _ lt1).trans c2)
        have d3 := (hgrow1.cell_far ⟨b, off + k * 3 + 2, none⟩ (lt2 _) (Ne.symm hlo)).trans ((World.cell?_alloc_lt _ _ _ lt1).trans c3)
        refine hK _ _ ⟨d1, d2, d3⟩ ?_
        clear hK K
        try simp only [Act.put, List.setIfInBounds_toArray, List.set_cons_zero, List.set_cons_succ]
        refine wpTail_step rfl (fun K hK => ?_)
        go_wp2_with fail
        refine hK _ _ ⟨d1, d2, d3⟩ ?_
        clear hK K
        try simp only [Act.put, List.setIfInBounds_toArray, List.set_cons_zero, List.set_cons_succ]
        refine wpTail_nil ?_
        rw [← tokCells_one, ← tokCells_append, ← Hsn.out] at hown1
        go_wp2
        go_roundw
        case rel => exact ⟨k + 1, by omega, by omega, by go_num, hown1, ((hb.alloc hb.size _).drew).grown hgrow1 (by have := hb.size; simp; omega) (ownBlock_ge hown)⟩
        case measure => simp [intOf]; omega
      · obtain rfl : k = 60 := by omega
        go_wp2
        go_ret
        obtain ⟨B, d, rfl, _, hH, hcap⟩ := holdsT_of_own hown
        exact ⟨B, d, rfl, hH, hcap, hb⟩
    · obtain rfl : k = l.length := by omega
      have e := fewTo_all l hk60
      have He := Lib.hid e
      clear e
      go_wp2
      go_ret
      obtain ⟨B, d, rfl, _, hH, hcap⟩ := holdsT_of_own hown
      rw [He.out] at hH hcap
      exact ⟨B, d, by rw [He.out]; rfl, hH, hcap, hb⟩
end Go.Proofs.YtebejlnegalokaaGreatDoor.Gz
/-
  XGrpH, turned: what this seat needs of it.
-/
namespace Go.Proofs.YtebejlnegalokaaGreatDoor.Gz
open Go.RowKit
def closerOf (b : Bool) : ByteArray := if b = true then gPas else gCus
def Tok.ok (x : Tok) : Bool := (closeOf x.glyph).isSome && decide (x.kind = 8)
theorem br_ways (x : Tok) : (x.br = none ∧ x.opn = false ∧ x.cls = false ∧ x.brk = false ∧ x.ok = false) ∨
    (∃ b, x.br = some (true, b) ∧ x.opn = true ∧ x.cls = false ∧ x.brk = true ∧ x.ok = true ∧ closeOf x.glyph = some (closerOf b)) ∨
    (∃ b, x.br = some (false, b) ∧ x.opn = false ∧ x.cls = true ∧ x.brk = true ∧ x.ok = false ∧ x.glyph = closerOf b) := by
  obtain ⟨k, t, g⟩ := x
  have n1 : gPas ≠ gPar := by decide
  have n2 : gPas ≠ gCur := by decide
  have n3 : gCus ≠ gPar := by decide
  have n4 : gCus ≠ gCur := by decide
  have n5 : gCur ≠ gPar := by decide
  have n6 : gCus ≠ gPas := by decide
  have m1 := n1.symm
  have m2 := n2.symm
  have m3 := n3.symm
  have m4 := n4.symm
  have m5 := n5.symm
  have m6 := n6.symm
  by_cases hk : k = 8
  · subst hk
    by_cases h1 : g = gPar
    · subst h1
      right; left
      exact ⟨true, by simp [Tok.br, Tok.opn, Tok.cls, Tok.brk, Tok.ok, Tok.isSign, closeOf, closerOf, n1, n2, n3, n4, n5, n6, m1, m2, m3, m4, m5, m6]⟩
    · by_cases h2 : g = gCur
      · subst h2
        right; left
        exact ⟨false, by simp [Tok.br, Tok.opn, Tok.cls, Tok.brk, Tok.ok, Tok.isSign, closeOf, closerOf, n1, n2, n3, n4, n5, n6, m1, m2, m3, m4, m5, m6]⟩
      · by_cases h3 : g = gPas
        · subst h3
          right; right
          exact ⟨true, by simp [Tok.br, Tok.opn, Tok.cls, Tok.brk, Tok.ok, Tok.isSign, closeOf, closerOf, n1, n2, n3, n4, n5, n6, m1, m2, m3, m4, m5, m6]⟩
        · by_cases h4 : g = gCus
          · subst h4
            right; right
            exact ⟨false, by simp [Tok.br, Tok.opn, Tok.cls, Tok.brk, Tok.ok, Tok.isSign, closeOf, closerOf, n1, n2, n3, n4, n5, n6, m1, m2, m3, m4, m5, m6]⟩
          · left
            refine ⟨?_, ?_, ?_, ?_, ?_⟩
            · simp [Tok.br, h1, h2, h3, h4]
            · simp [Tok.opn, Tok.isSign, h1, h2]
            · simp [Tok.cls, Tok.isSign, h3, h4]
            · simp [Tok.brk, Tok.isSign, closeOf, h1, h2, h3, h4]
            · simp [Tok.ok, closeOf, h1, h2]
  · left
    refine ⟨?_, ?_, ?_, ?_, ?_⟩
    · simp [Tok.br, hk]
    · simp [Tok.opn, Tok.isSign, hk]
    · simp [Tok.cls, Tok.isSign, hk]
    · simp [Tok.brk, Tok.isSign, hk]
    · simp [Tok.ok, hk]
theorem closerOf_inj {b c : Bool} : closerOf b = closerOf c ↔ b = c := by
  revert b c
  decide
theorem closerOf_ne (b : Bool) : closerOf b ≠ ByteArray.empty := by
  revert b
  decide
theorem br_open {x : Tok} {b : Bool} (h : x.br = some (true, b)) : x.opn = true ∧ x.cls = false ∧ x.brk = true ∧ x.ok = true ∧ closeOf x.glyph = some (closerOf b) := by
  rcases br_ways x with ⟨h0, _⟩ | ⟨c, h0, h1, h2, h3, h4, h5⟩ | ⟨c, h0, _⟩
  · rw [h0] at h; cases h
  · rw [h0] at h; cases h; exact ⟨h1, h2, h3, h4, h5⟩
  · rw [h0] at h; cases h
theorem run_snoc {l : List Tok} {k : Nat} {x : Tok} (hx : l[k]? = some x) : Brs.none0.run (brs (l.take (k + 1))) = (Brs.none0.run (brs (l.take k))).bind fun s => s.step x.br := by
  obtain ⟨h, rfl⟩ := List.getElem?_eq_some_iff.1 hx
  rw [List.take_succ_eq_append_getElem h, brs_app, Brs.run_append]
  congr 1
  funext t
  exact Brs.run_one t _
theorem run_fail {l : List Tok} {k : Nat} (h : Brs.none0.run (brs (l.take k)) = none) : Brs.none0.run (brs l) = none := by
  have e : l = l.take k ++ l.drop k := (List.take_append_drop k l).symm
  rw [e, brs_app, Brs.run_append, h]
  rfl
theorem Opend.tok {l : List Tok} {s : Brs} {q : Nat} {b : Bool} {r : List (Nat × Bool)} (h : Opend (brs l) s q b r) : ∃ y, l[q]? = some y ∧ y.br = some (true, b) := by
  obtain ⟨_, _, l1, mid, _, _, _, _, hl, hq, _⟩ := h
  have h1 : (brs l)[q]? = some (some (true, b)) := by
    rw [hl, ← hq]
    simp
  unfold brs at h1
  rw [List.getElem?_map] at h1
  cases hy : l[q]? with
  | none => rw [hy] at h1; cases h1
  | some y =>
    rw [hy] at h1
    simp only [Option.map_some, Option.some.injEq] at h1
    exact ⟨y, rfl, h1⟩
/-- The open bracket on top, at a beginning of the list. -/
theorem top_open {l : List Tok} {k : Nat} {s : Brs} {q : Nat} {b : Bool} {r : List (Nat × Bool)} (h : Brs.none0.run (brs (l.take k)) = some s) (hs : s.stack = (q, b) :: r) : q < k ∧ q < l.length ∧ ∃ y, l[q]? = some y ∧ y.br = some (true, b) := by
  obtain ⟨y, hy, hb⟩ := ((fine_of_run h).stk [] q b r hs).tok
  rw [List.getElem?_take] at hy
  split at hy
  · rename_i hq
    exact ⟨hq, (List.getElem?_eq_some_iff.1 hy).1, y, hy, hb⟩
  · cases hy
theorem run_lens {l : List Tok} {k : Nat} {s : Brs} (h : Brs.none0.run (brs (l.take k)) = some s) (hk : k ≤ l.length) : s.pairs.length = k ∧ s.deeps.length = k ∧ s.stack.length ≤ k ∧ s.stack.length ≤ s.most ∧ s.most ≤ k := by
  have hf := fine_of_run h
  have h1 := hf.len
  have h2 := hf.lenD
  rw [brs_len, List.length_take, Nat.min_eq_left hk] at h1 h2
  have h4 : ∀ (m : List (Option (Bool × Bool))) (a t : Brs), a.run m = some t → a.stack.length ≤ a.most → t.most ≤ a.most + m.length := by
    intro m
    induction m with
    | nil => intro a t h _; simp only [Brs.run, Option.some.injEq] at h; subst h; simp
    | cons x m ih =>
      intro a t h h0
      simp only [Brs.run] at h
      cases hs : a.step x with
      | none => simp [hs] at h
      | some u =>
        simp only [hs, Option.bind_some] at h
        have hu : u.stack.length ≤ u.most ∧ u.most ≤ a.most + 1 := by
          match x, hs with
          | none, hs => simp only [Brs.step, Option.some.injEq] at hs; subst hs; exact ⟨h0, by simp⟩
          | some (true, b), hs => simp only [Brs.step, Option.some.injEq] at hs; subst hs; simp; omega
          | some (false, b), hs =>
            simp only [Brs.step] at hs
            split at hs
            · cases hs
            · split at hs
              · rename_i q c r hr hcb
                simp only [Option.some.injEq] at hs
                subst hs
                rw [hr] at h0
                simp at h0 ⊢
                omega
              · cases hs
        have := ih u t h hu.1
        simp only [List.length_cons]
        omega
  have h5 := h4 _ _ _ h (by simp [Brs.none0])
  rw [brs_len, List.length_take, Nat.min_eq_left hk] at h5
  simp [Brs.none0] at h5
  exact ⟨h1, h2, by have := hf.most; omega, hf.most, h5⟩
/-- What is told: partners, depths. -/
def matchOf (l : List Tok) : List Int := if codeOf l = 0 then (brsOf l).pairs else []
theorem matchOf_no {l : List Tok} (h : codeOf l ≠ 0) : matchOf l = [] := if_neg h
theorem matchOf_yes {l : List Tok} (h : codeOf l = 0) : matchOf l = (brsOf l).pairs := if_pos h
/-- At the end of a list. -/
theorem code_end {l : List Tok} {s : Brs} (h : Brs.none0.run (brs l) = some s) : codeOf l = (if s.stack = [] then (if 20 < s.most then 61 else 0) else 60) ∧ brsOf l = s := by
  unfold codeOf brsOf
  rw [h]
  exact ⟨rfl, rfl⟩
end Go.Proofs.YtebejlnegalokaaGreatDoor.Gz
/-
  XGrpI, turned: what this seat needs of it.
-/
namespace Go.Proofs.YtebejlnegalokaaGreatDoor.Gz
open Go.RowKit
/-- What lies from one place to another. -/
def seg (l : List Tok) (a b : Nat) : List Tok := (l.drop a).take (b - a)
theorem seg_len {l : List Tok} {a b : Nat} (h : b ≤ l.length) : (seg l a b).length = b - a := by
  unfold seg
  rw [List.length_take, List.length_drop]
  omega
theorem seg_get {l : List Tok} {a b k : Nat} {x : Tok} (h : (seg l a b)[k]? = some x) : l[a + k]? = some x ∧ a + k < b := by
  unfold seg at h
  rw [List.getElem?_take] at h
  split at h
  · rw [List.getElem?_drop] at h
    exact ⟨h, by omega⟩
  · cases h
theorem seg_all (l : List Tok) : seg l 0 l.length = l := by
  unfold seg
  simp
theorem seg_end (l : List Tok) (a : Nat) : seg l a l.length = l.drop a := by
  unfold seg
  rw [List.take_of_length_le (by simp)]
theorem seg_more {l : List Tok} {a i : Nat} {x : Tok} (hx : l[i]? = some x) (h : a ≤ i) : seg l a (i + 1) = seg l a i ++ [x] := by
  obtain ⟨hi, rfl⟩ := List.getElem?_eq_some_iff.1 hx
  unfold seg
  have e : i + 1 - a = (i - a) + 1 := by omega
  rw [e, List.take_succ_eq_append_getElem (by rw [List.length_drop]; omega)]
  congr 1
  simp only [List.getElem_drop]
  congr 2
  omega
theorem split_yes {g : ByteArray} {l : List Tok} {D : List Nat} {i a : Nat} {x : Tok} {done T : List (List Tok)} (hx : l[i]? = some x) (hd : D[i]? = some 0) (hs : x.isSign g = true) (hb : x.br = none)
    (h : done ++ splitGo g (l.drop i) (D.drop i) (seg l a i) = T) : (done ++ [seg l a i]) ++ splitGo g (l.drop (i + 1)) (D.drop (i + 1)) (seg l (i + 1) (i + 1)) = T := by
  obtain ⟨h1, rfl⟩ := List.getElem?_eq_some_iff.1 hx
  obtain ⟨h2, h3⟩ := List.getElem?_eq_some_iff.1 hd
  rw [← h, List.drop_eq_getElem_cons h1, List.drop_eq_getElem_cons h2, h3]
  have e : seg l (i + 1) (i + 1) = [] := by unfold seg; simp
  rw [e]
  conv => rhs; rw [splitGo, if_pos ⟨rfl, hs, hb⟩]
  simp
theorem split_no {g : ByteArray} {l : List Tok} {D : List Nat} {i a d : Nat} {x : Tok} {done T : List (List Tok)} (hx : l[i]? = some x) (hd : D[i]? = some d) (ha : a ≤ i) (hn : ¬ (d = 0 ∧ x.isSign g = true ∧ x.br = none))
    (h : done ++ splitGo g (l.drop i) (D.drop i) (seg l a i) = T) : done ++ splitGo g (l.drop (i + 1)) (D.drop (i + 1)) (seg l a (i + 1)) = T := by
  rw [seg_more hx ha]
  obtain ⟨h1, rfl⟩ := List.getElem?_eq_some_iff.1 hx
  obtain ⟨h2, h3⟩ := List.getElem?_eq_some_iff.1 hd
  rw [← h, List.drop_eq_getElem_cons h1, List.drop_eq_getElem_cons h2, h3]
  conv => rhs; rw [splitGo, if_neg hn]
theorem split_end {g : ByteArray} {l : List Tok} {D : List Nat} {a : Nat} {done T : List (List Tok)} (h : done ++ splitGo g (l.drop l.length) (D.drop l.length) (seg l a l.length) = T) : done ++ [seg l a l.length] = T := by
  rw [← h]
  congr 1
  rw [List.drop_of_length_le (Nat.le_refl _)]
  simp [splitGo]
/-- The parts, and what is told with them. -/
def splitRes (l : List Tok) (g : ByteArray) : List (List Tok) × Int := if codeOf l = 0 then (splitOf l g, 0) else ([], codeOf l)
def insideRes (l : List Tok) (a : Int) : List Tok × Int :=
  if codeOf l = 0 then (if 0 ≤ a ∧ a < l.length ∧ a ≤ (brsOf l).pr a.toNat then (seg l (a.toNat + 1) ((brsOf l).pr a.toNat).toNat, 0) else ([], 60)) else ([], codeOf l)
/-- A slice of slices of tokens. -/
def HoldsTT (w : World) (A : Option Addr) (ps : List (List Tok)) : Prop :=
  ∀ (k : Nat) (p : List Tok), ps[k]? = some p → ∃ b off B c, A = some ⟨b, off, none⟩ ∧ w.cell? ⟨b, off + k, none⟩ = some (.slice B p.length c) ∧ p.length ≤ c ∧ HoldsT w B p
theorem HoldsTT.below {w w' : World} {A : Option Addr} {ps : List (List Tok)} (h : HoldsTT w A ps) (hb : Below w.heap.size w w') : HoldsTT w' A ps := fun k p hp => by
  obtain ⟨b, off, B, c, e, h1, h2, h3⟩ := h k p hp
  exact ⟨b, off, B, c, e, (hb.cell (p := ⟨b, _, none⟩) (cell_lt h1)).trans h1, h2, h3.below hb⟩
theorem HoldsTT.nil (w : World) (A : Option Addr) : HoldsTT w A [] := fun k p h => by simp at h
theorem HoldsTT.drewN {w : World} {A : Option Addr} {ps : List (List Tok)} (h : HoldsTT w A ps) (n : Nat) : HoldsTT (w.drewN n) A ps := h
/-- The slice's own cells xs hold, one by one, slices of the tokens ps. -/
def RowsT (w : World) (xs : List Value) (ps : List (List Tok)) : Prop := xs.length = ps.length ∧ ∀ (k : Nat) (p : List Tok), ps[k]? = some p → ∃ B c, xs[k]? = some (.slice B p.length c) ∧ p.length ≤ c ∧ HoldsT w B p
theorem RowsT.nil (w : World) : RowsT w [] [] := ⟨rfl, fun k p h => by simp at h⟩
theorem RowsT.below {w w' : World} {xs : List Value} {ps : List (List Tok)} (h : RowsT w xs ps) (hb : Below w.heap.size w w') : RowsT w' xs ps :=
  ⟨h.1, fun k p hp => by obtain ⟨B, c, h1, h2, h3⟩ := h.2 k p hp; exact ⟨B, c, h1, h2, h3.below hb⟩⟩
theorem RowsT.snoc {w : World} {xs : List Value} {ps : List (List Tok)} {p : List Tok} {B : Option Addr} {c : Nat} (h : RowsT w xs ps) (hc : p.length ≤ c) (hp : HoldsT w B p) : RowsT w (xs ++ [.slice B p.length c]) (ps ++ [p]) := by
  refine ⟨by simp [h.1], fun k q hq => ?_⟩
  by_cases hk : k < ps.length
  · rw [List.getElem?_append_left hk] at hq
    obtain ⟨B', c', h1, h2, h3⟩ := h.2 k q hq
    exact ⟨B', c', by rw [List.getElem?_append_left (by rw [h.1]; exact hk)]; exact h1, h2, h3⟩
  · rw [List.getElem?_append_right (by omega)] at hq
    obtain ⟨h1, rfl⟩ : k - ps.length = 0 ∧ p = q := by
      cases e : k - ps.length with
      | zero => rw [e] at hq; simp at hq; exact ⟨rfl, hq⟩
      | succ j => rw [e] at hq; simp at hq
    have : k = ps.length := by omega
    subst this
    exact ⟨B, c, by rw [← h.1]; simp, hc, hp⟩
theorem holdsTT_of_own {w : World} {base : Nat} {e : TypeId} {v : Value} {n : Nat} {xs : List Value} {ps : List (List Tok)} (h : w.ownsRow base e 1 v n xs) (hr : RowsT w xs ps) :
    ∃ A c, v = .slice A ps.length c ∧ n = ps.length ∧ HoldsTT w A ps ∧ ps.length ≤ c := by
  have hn : n = ps.length := by have h1 := h.1; rw [hr.1] at h1; omega
  subst hn
  rcases h.2 with ⟨rfl, h0⟩ | ⟨g, cap, cur, rfl, _, _, hcap, _⟩
  · have : ps = [] := List.eq_nil_of_length_eq_zero h0
    subst this
    exact ⟨none, 0, rfl, rfl, HoldsTT.nil _ _, Nat.le_refl _⟩
  · refine ⟨some ⟨g, 0, none⟩, cap, rfl, rfl, fun k p hp => ?_, hcap⟩
    have hc := h.cells (g := g) rfl
    obtain ⟨B, c, h1, h2, h3⟩ := hr.2 k p hp
    have c1 := hc k _ h1
    have ea : ∀ j, (⟨g, 0, none⟩ : Addr).add j = ⟨g, 0 + j, none⟩ := fun j => by
      unfold Addr.add
      split
      · rename_i h; subst h; rfl
      · rfl
    rw [ea] at c1
    exact ⟨g, 0, B, c, rfl, c1, h2, h3⟩
/-- Part of a slice of tokens. -/
theorem HoldsT.seg {w : World} {b off : Nat} {l : List Tok} (h : HoldsT w (some ⟨b, off, none⟩) l) (a c : Nat) : HoldsT w (some ⟨b, off + a * 3, none⟩) (seg l a c) := fun k x hx => by
  obtain ⟨b', off', e, h1, h2, h3⟩ := h (a + k) x (seg_get hx).1
  cases e
  have e1 : ∀ j, off + a * 3 + k * 3 + j = off + (a + k) * 3 + j := fun j => by omega
  refine ⟨b, off + a * 3, rfl, ?_, ?_, ?_⟩
  · rw [← h1]; congr 2; omega
  · rw [← h2]; congr 2; omega
  · rw [← h3]; congr 2; omega
theorem HoldsT.nil_any {w : World} {A B : Option Addr} {l : List Tok} (h : HoldsT w A l) (hl : l = []) : HoldsT w B l := by subst hl; exact HoldsT.nil _ _
theorem grown_of_below {w w' : World} (h : Below w.heap.size w w') : w.grownBy w' none := ⟨h.os, h.tape, h.output, h.size, fun k hk _ => h.block k hk⟩
theorem own_below {w w' : World} {base : Nat} {e : TypeId} {size : Nat} {v : Value} {n : Nat} {xs : List Value} (h : w.ownsRow base e size v n xs) (hb : Below w.heap.size w w') : w'.ownsRow base e size v n xs :=
  h.kept (grown_of_below hb) (by cases hv : v.ownBlock <;> simp)
/-- What a call tells: numbers, tokens, parts; a number of an error. -/
def TellsI (w : World) (out : List Int) (code : Int) (r : Ending) (w' : World) : Prop := ∃ B d, r = .returned (.tuple #[.slice B out.length d, .int .i64 code]) ∧ HoldsI w' B out ∧ Below w.heap.size w w'
def TellsT (w : World) (out : List Tok) (code : Int) (r : Ending) (w' : World) : Prop := ∃ B d, r = .returned (.tuple #[.slice B out.length d, .int .i64 code]) ∧ HoldsT w' B out ∧ Below w.heap.size w w'
def TellsTT (w : World) (out : List (List Tok)) (code : Int) (r : Ending) (w' : World) : Prop := ∃ B d, r = .returned (.tuple #[.slice B out.length d, .int .i64 code]) ∧ HoldsTT w' B out ∧ Below w.heap.size w w'
theorem TellsI.mk {w w' : World} {out : List Int} {code : Int} (B : Option Addr) (d n : Nat) (hn : n = out.length) {c : Int} (hc : c = code) (h : HoldsI w' B out) (hb : Below w.heap.size w w') : TellsI w out code (.returned (.tuple #[.slice B n d, .int .i64 c])) w' := by
  subst hn hc
  exact ⟨B, d, rfl, h, hb⟩
theorem TellsT.mk {w w' : World} {out : List Tok} {code : Int} (B : Option Addr) (d n : Nat) (hn : n = out.length) {c : Int} (hc : c = code) (h : HoldsT w' B out) (hb : Below w.heap.size w w') : TellsT w out code (.returned (.tuple #[.slice B n d, .int .i64 c])) w' := by
  subst hn hc
  exact ⟨B, d, rfl, h, hb⟩
theorem TellsTT.mk {w w' : World} {out : List (List Tok)} {code : Int} (B : Option Addr) (d n : Nat) (hn : n = out.length) {c : Int} (hc : c = code) (h : HoldsTT w' B out) (hb : Below w.heap.size w w') : TellsTT w out code (.returned (.tuple #[.slice B n d, .int .i64 c])) w' := by
  subst hn hc
  exact ⟨B, d, rfl, h, hb⟩
end Go.Proofs.YtebejlnegalokaaGreatDoor.Gz
/-
  XGrpW, turned: what this seat needs of it.
-/
namespace Go.Proofs.YtebejlnegalokaaGreatDoor.Gz
open Go.RowKit
theorem empty_not {u : ByteArray} (h : u ≠ ByteArray.empty) : u.toList.isEmpty = false := by
  cases hl : u.toList with
  | cons y l => rfl
  | nil =>
    exfalso
    apply h
    obtain ⟨⟨l⟩⟩ := u
    rw [ByteArray.toList_eq] at hl
    simp at hl
    subst hl
    rfl
end Go.Proofs.YtebejlnegalokaaGreatDoor.Gz
/-
  XGrpN, turned: what this seat needs of it.
-/
namespace Go.Proofs.YtebejlnegalokaaGreatDoor.Gz
open Go.RowKit
theorem intCells_get {l : List Int} {k : Nat} {x : Int} (h : l[k]? = some x) : (intCells l)[k]? = some (.int .i64 x) := by simp [intCells, h]
theorem intCells_set (l : List Int) (k : Nat) (x : Int) : (intCells l).set k (.int .i64 x) = intCells (l.set k x) := by simp [intCells, List.map_set]
theorem own_form {w : World} {base : Nat} {e : TypeId} {v : Value} {n : Nat} {xs : List Value} (h : w.ownsRow base e 1 v n xs) (hn : 0 < n) : ∃ g cap, v = .slice (some ⟨g, 0, none⟩) n cap ∧ base ≤ g ∧ g < w.heap.size ∧ n ≤ cap := by
  rcases h.2 with ⟨_, h0⟩ | ⟨g, cap, cur, hv, hb, hg, hc, _⟩
  · omega
  · exact ⟨g, cap, hv, hb, (Array.getElem?_eq_some_iff.1 hg).1, hc⟩
def stackOf (s : Brs) : List Int := (s.stack.map (fun x => (x.1 : Int))).reverse
theorem stackOf_cons {s : Brs} {q : Nat} {b : Bool} {r : List (Nat × Bool)} (h : s.stack = (q, b) :: r) : stackOf s = (r.map (fun x => (x.1 : Int))).reverse ++ [(q : Int)] := by
  unfold stackOf
  rw [h]
  simp
theorem stackOf_len (s : Brs) : (stackOf s).length = s.stack.length := by simp [stackOf]
theorem far_right {o v v' : Value} {n : Nat} (h : ∀ b, o.ownBlock = some b → v.ownBlock ≠ some b) (hat : v'.ownBlock = v.ownBlock ∨ v'.ownBlock = some n) (ho : ∀ b, o.ownBlock = some b → b < n) : ∀ b, o.ownBlock = some b → v'.ownBlock ≠ some b := fun b hb he => by
  rcases hat with e | e
  · exact h b hb (e ▸ he)
  · rw [e] at he
    cases he
    have := ho _ hb
    omega
theorem far_row' {o v : Value} (h : ∀ b, o.ownBlock = some b → v.ownBlock ≠ some b) : o.ownBlock = none ∨ o.ownBlock ≠ v.ownBlock := by
  cases ho : o.ownBlock with
  | none => exact Or.inl rfl
  | some b => exact Or.inr fun e => h b ho e.symm
end Go.Proofs.YtebejlnegalokaaGreatDoor.Gz
/-
  XGrpRb, turned: what this seat needs of it.
-/
namespace Go.Proofs.YtebejlnegalokaaGreatDoor.Gz
open Go.RowKit
theorem infoToks : (Tryz.prog.info? 34).map (fun i => (i.zero, i.size, i.bytes)) = some (some (.slice none 0 0), 1, 24) := by kernel_rfl
end Go.Proofs.YtebejlnegalokaaGreatDoor.Gz
/-
  XGrpRc, turned: what this seat needs of it.
-/
namespace Go.Proofs.YtebejlnegalokaaGreatDoor.Gz
open Go.RowKit
/-- The partner at a place that is told to lie behind. -/
theorem inside_pair {l : List Tok} (h : codeOf l = 0) {n : Nat} (hn : n < l.length) (hp : (n : Int) ≤ (brsOf l).pr n) : ∃ j : Nat, (brsOf l).pr n = j ∧ n < j ∧ j < l.length := by
  obtain ⟨j, h1, h2, h3, _⟩ := partners_law h hn (by omega)
  exact ⟨j, h1, by omega, h2⟩
theorem pr_get {l : List Tok} (h : codeOf l = 0) {n : Nat} (hn : n < l.length) : (brsOf l).pairs[n]? = some ((brsOf l).pr n) := by
  have h1 := (brsOf_len h).1
  unfold Brs.pr
  rw [List.getD_eq_getElem?_getD, List.getElem?_eq_getElem (by omega)]
  rfl
theorem insideRes_no {l : List Tok} {a : Int} (h : codeOf l = 0) (hn : ¬ (0 ≤ a ∧ a < l.length ∧ a ≤ (brsOf l).pr a.toNat)) : insideRes l a = ([], 60) := by
  unfold insideRes
  rw [if_pos h, if_neg hn]
theorem insideRes_yes {l : List Tok} {n j : Nat} (h : codeOf l = 0) (hn : n < l.length) (hp : (brsOf l).pr n = j) (hj : n < j) : insideRes l n = (seg l (n + 1) j, 0) := by
  unfold insideRes
  rw [if_pos h, if_pos ⟨by omega, by omega, by rw [Int.toNat_natCast, hp]; omega⟩, Int.toNat_natCast, hp, Int.toNat_natCast]
end Go.Proofs.YtebejlnegalokaaGreatDoor.Gz
/-
  XGrpJa, turned: what this seat needs of it.
-/
namespace Go.Proofs.YtebejlnegalokaaGreatDoor.Gz
open Go Go.RowKit
def Far (o v : Value) : Prop := ∀ b, o.ownBlock = some b → v.ownBlock ≠ some b
theorem Far.symm {o v : Value} (h : Far o v) : Far v o := fun b hb he => h b he hb
theorem row_ne {W : World} {base : Nat} {e : TypeId} {size : Nat} {v : Value} {n : Nat} {xs : List Value} (h : W.ownsRow base e size v n xs) {k : Nat} {cs : Array Value} {t : TypeId} {fr : Nat × Nat} (hk : W.heap[k]? = some (.cells cs t fr)) (hte : t ≠ e) : v.ownBlock ≠ some k := by
  intro hv
  rcases h.2 with ⟨rfl, _⟩ | ⟨g, cap, cur, rfl, _, hg, _⟩
  · simp [Value.ownBlock] at hv
  · simp [Value.ownBlock] at hv
    subst hv
    rw [hg] at hk
    cases hk
    exact hte rfl
theorem own_mono {w : World} {base base' : Nat} {e : TypeId} {size : Nat} {v : Value} {n : Nat} {xs : List Value} (h : w.ownsRow base e size v n xs) (hb : base' ≤ base) : w.ownsRow base' e size v n xs := by
  refine ⟨h.1, ?_⟩
  rcases h.2 with h0 | ⟨g, cap, cur, hv, hg, rest⟩
  · exact .inl h0
  · exact .inr ⟨g, cap, cur, hv, Nat.le_trans hb hg, rest⟩
theorem grown_setCell (w : World) (p : Addr) (v : Value) : w.grownBy (w.setCell p v) (some p.block) :=
  ⟨rfl, rfl, rfl, by simp, fun k _ hk => heap_setCell_other w p k v (fun e => hk (by simp [e]))⟩
theorem others_of_below {W W' : World} (hb : Below W.heap.size W W') : KeepsOthers W W' := ⟨hb.size, fun k o h _ => (hb.block k (Array.getElem?_eq_some_iff.1 h).1).trans h⟩
/-- The matcher at a, its pointer's box at Bm, the depths' box at Bd. -/
structure MatC (l : List Tok) (w0 : World) (A : Option Addr) (c a Bm Bd : Nat) (sv pv dv : Value) (stk prs ds : List Int) (mo : Int) (ev : Value) (W : World) : Prop where
  low : Below w0.heap.size w0 W
  bm : Boxed W Bm 122 (.pointer (some ⟨a, 0, none⟩))
  bd : Boxed W Bd 47 dv
  ma : W.heap[a]? = some (.cells #[sv, .slice A l.length c, pv, .int .i64 mo, ev] 128 (0, 0))
  stk : W.ownsRow w0.heap.size 3 1 sv stk.length (intCells stk)
  prs : W.ownsRow w0.heap.size 3 1 pv prs.length (intCells prs)
  dps : W.ownsRow w0.heap.size 3 1 dv ds.length (intCells ds)
  f1 : Far pv sv
  f2 : Far pv dv
  f3 : Far sv dv
  ga : w0.heap.size ≤ a
  gd : w0.heap.size ≤ Bd
section
variable {l : List Tok} {w0 : World} {A : Option Addr} {c a Bm Bd : Nat} {sv pv dv : Value} {stk prs ds : List Int} {mo : Int} {ev : Value} {W W' : World}

theorem MatC.below (h : MatC l w0 A c a Bm Bd sv pv dv stk prs ds mo ev W) (hb : Below W.heap.size W W') : MatC l w0 A c a Bm Bd sv pv dv stk prs ds mo ev W' :=
  ⟨h.low.trans (hb.mono h.low.size), (hb.block _ h.bm.lt).trans h.bm, (hb.block _ h.bd.lt).trans h.bd, (hb.block _ (Array.getElem?_eq_some_iff.1 h.ma).1).trans h.ma, own_below h.stk hb, own_below h.prs hb, own_below h.dps hb, h.f1, h.f2, h.f3, h.ga, h.gd⟩

theorem MatC.drew (h : MatC l w0 A c a Bm Bd sv pv dv stk prs ds mo ev W) : MatC l w0 A c a Bm Bd sv pv dv stk prs ds mo ev W.drew := h.below (Below.refl _ _).drew
theorem MatC.drewN (h : MatC l w0 A c a Bm Bd sv pv dv stk prs ds mo ev W) (n : Nat) : MatC l w0 A c a Bm Bd sv pv dv stk prs ds mo ev (W.drewN n) := h.below (below_drewN (Below.refl _ _) n)
theorem MatC.alloc (h : MatC l w0 A c a Bm Bd sv pv dv stk prs ds mo ev W) (o : Obj) : MatC l w0 A c a Bm Bd sv pv dv stk prs ds mo ev (W.alloc o) := h.below ((Below.refl _ _).alloc (Nat.le_refl _) o)
theorem MatC.la (h : MatC l w0 A c a Bm Bd sv pv dv stk prs ds mo ev W) : a < W.heap.size := (Array.getElem?_eq_some_iff.1 h.ma).1

theorem MatC.c0 (h : MatC l w0 A c a Bm Bd sv pv dv stk prs ds mo ev W) : W.cell? ⟨a, 0, none⟩ = some sv := by simp [World.cell?, h.ma]
theorem MatC.c1 (h : MatC l w0 A c a Bm Bd sv pv dv stk prs ds mo ev W) : W.cell? ⟨a, 1, none⟩ = some (.slice A l.length c) := by simp [World.cell?, h.ma]
theorem MatC.c2 (h : MatC l w0 A c a Bm Bd sv pv dv stk prs ds mo ev W) : W.cell? ⟨a, 2, none⟩ = some pv := by simp [World.cell?, h.ma]
theorem MatC.c3 (h : MatC l w0 A c a Bm Bd sv pv dv stk prs ds mo ev W) : W.cell? ⟨a, 3, none⟩ = some (.int .i64 mo) := by simp [World.cell?, h.ma]
theorem MatC.c4 (h : MatC l w0 A c a Bm Bd sv pv dv stk prs ds mo ev W) : W.cell? ⟨a, 4, none⟩ = some ev := by simp [World.cell?, h.ma]
theorem MatC.fz (h : MatC l w0 A c a Bm Bd sv pv dv stk prs ds mo ev W) (o : Nat) : W.frozen? ⟨a, o, none⟩ = false := frozen_of_row W a o _ _ h.ma

theorem MatC.na (h : MatC l w0 A c a Bm Bd sv pv dv stk prs ds mo ev W) : Bm ≠ a ∧ Bd ≠ a ∧ Bm ≠ Bd := by
  have h1 : W.heap[Bm]? = some (.cells #[.pointer (some ⟨a, 0, none⟩)] 122 (0, 0)) := h.bm
  have h2 : W.heap[Bd]? = some (.cells #[dv] 47 (0, 0)) := h.bd
  refine ⟨fun e => ?_, fun e => ?_, fun e => ?_⟩
  · rw [e, h.ma] at h1; cases h1
  · rw [e, h.ma] at h2; cases h2
  · rw [e, h2] at h1; cases h1

theorem MatC.setStack (h : MatC l w0 A c a Bm Bd sv pv dv stk prs ds mo ev W) (v : Value) (stk' : List Int) (hv : W.ownsRow w0.heap.size 3 1 v stk'.length (intCells stk')) (f1 : Far pv v) (f3 : Far v dv) :
    MatC l w0 A c a Bm Bd v pv dv stk' prs ds mo ev (W.setCell ⟨a, 0, none⟩ v) := by
  have hg := grown_setCell W ⟨a, 0, none⟩ v
  obtain ⟨n1, n2, _⟩ := h.na
  exact ⟨h.low.setCell (p := ⟨a, 0, none⟩) h.ga v, h.bm.kept hg (by simpa using n1), h.bd.kept hg (by simpa using n2), heap_setCell_same W a 0 _ _ v h.ma, hv.kept hg (Or.inr (row_ne hv h.ma (by decide))),
    h.prs.kept hg (Or.inr (row_ne h.prs h.ma (by decide))), h.dps.kept hg (Or.inr (row_ne h.dps h.ma (by decide))), f1, h.f2, f3, h.ga, h.gd⟩

theorem MatC.setMost (h : MatC l w0 A c a Bm Bd sv pv dv stk prs ds mo ev W) (mo' : Int) :
    MatC l w0 A c a Bm Bd sv pv dv stk prs ds mo' ev (W.setCell ⟨a, 3, none⟩ (.int .i64 mo')) := by
  have hg := grown_setCell W ⟨a, 3, none⟩ (.int .i64 mo')
  obtain ⟨n1, n2, _⟩ := h.na
  exact ⟨h.low.setCell (p := ⟨a, 3, none⟩) h.ga _, h.bm.kept hg (by simpa using n1), h.bd.kept hg (by simpa using n2), heap_setCell_same W a 3 _ _ _ h.ma, h.stk.kept hg (Or.inr (row_ne h.stk h.ma (by decide))),
    h.prs.kept hg (Or.inr (row_ne h.prs h.ma (by decide))), h.dps.kept hg (Or.inr (row_ne h.dps h.ma (by decide))), h.f1, h.f2, h.f3, h.ga, h.gd⟩

theorem MatC.setErr (h : MatC l w0 A c a Bm Bd sv pv dv stk prs ds mo ev W) (ev' : Value) :
    MatC l w0 A c a Bm Bd sv pv dv stk prs ds mo ev' (W.setCell ⟨a, 4, none⟩ ev') := by
  have hg := grown_setCell W ⟨a, 4, none⟩ ev'
  obtain ⟨n1, n2, _⟩ := h.na
  exact ⟨h.low.setCell (p := ⟨a, 4, none⟩) h.ga _, h.bm.kept hg (by simpa using n1), h.bd.kept hg (by simpa using n2), heap_setCell_same W a 4 _ _ _ h.ma, h.stk.kept hg (Or.inr (row_ne h.stk h.ma (by decide))),
    h.prs.kept hg (Or.inr (row_ne h.prs h.ma (by decide))), h.dps.kept hg (Or.inr (row_ne h.dps h.ma (by decide))), h.f1, h.f2, h.f3, h.ga, h.gd⟩

theorem MatC.setPair {g n cap : Nat} (h : MatC l w0 A c a Bm Bd sv (.slice (some ⟨g, 0, none⟩) n cap) dv stk prs ds mo ev W) (hn : n = prs.length) (q : Nat) (x : Int) :
    MatC l w0 A c a Bm Bd sv (.slice (some ⟨g, 0, none⟩) n cap) dv stk (prs.set q x) ds mo ev (W.setCell ⟨g, q, none⟩ (.int .i64 x)) := by
  subst hn
  obtain ⟨h1, hg⟩ := h.prs.stored q (.int .i64 x)
  have gg := (h.prs.lt g rfl).1
  rw [intCells_set] at h1
  have na : some a ≠ some g := fun e => row_ne h.prs h.ma (by decide) e.symm
  have nm : some Bm ≠ some g := fun e => row_ne h.prs h.bm (by decide) e.symm
  have nd : some Bd ≠ some g := fun e => row_ne h.prs h.bd (by decide) e.symm
  exact ⟨h.low.setCell (p := ⟨g, q, none⟩) gg _, h.bm.kept hg nm, h.bd.kept hg nd, (hg.block a h.la na).trans h.ma, h.stk.kept hg (Or.inr (h.f1 g rfl)),
    by simpa using h1, h.dps.kept hg (Or.inr (h.f2 g rfl)), h.f1, h.f2, h.f3, h.ga, h.gd⟩

theorem MatC.setDeep {W1 : World} (h : MatC l w0 A c a Bm Bd sv pv dv stk prs ds mo ev W) (dv' : Value) (ds' : List Int) (hg : W.grownBy W1 dv.ownBlock) (hv : W1.ownsRow w0.heap.size 3 1 dv' ds'.length (intCells ds')) (f2 : Far pv dv') (f3 : Far sv dv') :
    MatC l w0 A c a Bm Bd sv pv dv' stk prs ds' mo ev (W1.setCell ⟨Bd, 0, none⟩ dv') := by
  have gg := ownBlock_ge h.dps
  have na : some a ≠ dv.ownBlock := fun e => row_ne h.dps h.ma (by decide) e.symm
  have nm : some Bm ≠ dv.ownBlock := fun e => row_ne h.dps h.bm (by decide) e.symm
  have nd : some Bd ≠ dv.ownBlock := fun e => row_ne h.dps h.bd (by decide) e.symm
  have b1 := h.bd.kept hg nd
  have hg2 := grown_setCell W1 ⟨Bd, 0, none⟩ dv'
  obtain ⟨n1, n2, n3⟩ := h.na
  have bm1 := h.bm.kept hg nm
  have ma1 := (hg.block a h.la na).trans h.ma
  have s1 := h.stk.kept hg (far_row' h.f3)
  have p1 := h.prs.kept hg (far_row' h.f2)
  have lw1 : Below w0.heap.size w0 W1 := h.low.grown hg h.low.size gg
  have nd1 : Bd ≠ a := n2
  exact ⟨lw1.setCell (p := ⟨Bd, 0, none⟩) h.gd dv', bm1.kept hg2 (by simpa using n3), b1.set dv', (hg2.block a (Array.getElem?_eq_some_iff.1 ma1).1 (by simpa using Ne.symm nd1)).trans ma1,
    s1.kept hg2 (Or.inr (row_ne s1 b1 (by decide))), p1.kept hg2 (Or.inr (row_ne p1 b1 (by decide))), hv.kept hg2 (Or.inr (row_ne hv b1 (by decide))), h.f1, f2, f3, h.ga, h.gd⟩

theorem MatC.putObj (h : MatC l w0 A c a Bm Bd sv pv dv stk prs ds mo ev W) {L : Nat} {o : Obj} (o' : Obj) (hl : W.heap[L]? = some o) (ho : o.isCells = false) (hL : w0.heap.size ≤ L) :
    MatC l w0 A c a Bm Bd sv pv dv stk prs ds mo ev (W.putObj L o') := by
  have hg := grownBy_putObj' W L o'
  have ne : ∀ {k : Nat} {cs : Array Value} {t : TypeId} {fr : Nat × Nat}, W.heap[k]? = some (.cells cs t fr) → some k ≠ some L := fun hk e => by
    cases e
    rw [hl] at hk
    cases hk
    cases ho
  exact ⟨h.low.grown hg h.low.size (fun k e => by cases e; exact hL), h.bm.kept hg (ne h.bm), h.bd.kept hg (ne h.bd), (hg.block a h.la (ne h.ma)).trans h.ma, ownsRow_putObj h.stk o' hl ho, ownsRow_putObj h.prs o' hl ho, ownsRow_putObj h.dps o' hl ho, h.f1, h.f2, h.f3, h.ga, h.gd⟩
end
end Go.Proofs.YtebejlnegalokaaGreatDoor.Gz
