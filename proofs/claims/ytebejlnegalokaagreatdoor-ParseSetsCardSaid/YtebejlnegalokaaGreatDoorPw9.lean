/-
  The laws' few names: by the program.
-/
import Derived.Test.YtebejlnegalokaaGreatDoorProg
import Derived.Test.YtebejlnegalokaaGreatDoorReg
import Derived.WalkKit
import Derived.WalkSpells
import Derived.WalkLawsBesides
import Derived.Lib.Hide
import Derived.Lib.MinMax
import Derived.Deep.QuietTactic
import Derived.BigQuiet
import Derived.OwnWalk
import Derived.Deep.AppendLies
import Derived.KernelRfl
import Derived.Test.YtebejlnegalokaaGreatDoorPw8
set_option linter.unusedSimpArgs false
set_option linter.unusedVariables false
namespace Go.Proofs.YtebejlnegalokaaGreatDoor
open Go Go.RowKit Go.Maps
open Gz (Tok HoldsT mildT)

def cutName (s : ByteArray) : ByteArray := s.extract 0 (min s.size 50)
theorem cutName_size (s : ByteArray) : (cutName s).size ≤ 50 := by unfold cutName; rw [ByteArray.size_extract]; omega
def few1E (x : Bd) : Bd := ⟨cutName x.name, x.fn⟩
def fewToE (l : List Bd) (n : Nat) : List Bd := (l.take n).map few1E
def fewE (l : List Bd) : List Bd := fewToE l 40
theorem fewToE_len (l : List Bd) (n : Nat) : (fewToE l n).length ≤ n := by unfold fewToE; rw [List.length_map, List.length_take]; omega

set_option maxRecDepth 100000 in
set_option maxHeartbeats 8000000 in
theorem Few_any (A : Option Addr) (c : Nat) (l : List Bd) (w : World) (hl : l.length ≤ maxLen) (hs : ∀ x ∈ l, x.name.size ≤ maxLen) (hH : HoldsE w A l) :
    Calls Tryz.prog 9 #[.slice A l.length c] w fun e w' => ∃ B d, e = .returned (.slice B (fewE l).length d) ∧ HoldsE w' B (fewE l) ∧ (fewE l).length ≤ d ∧ Below w.heap.size w w' := by
  unfold maxLen at hl hs
  have HS := Lib.hid hs
  have HH := Lib.hid hH
  clear hs hH
  go_enter Tryz.func9, Tryz.ntmps9
  go_wp2_with fail
  go_loopw [3, 4] (fun v i wr => ∃ (k : Nat), i = .int .i64 k ∧ k ≤ l.length ∧ k ≤ 40 ∧ Hid (wr.ownsRow w.heap.size 30 2 v (fewToE l k).length (bdCells (fewToE l k))) ∧ Hid (Below w.heap.size w wr)) (fun _ i _ => l.length - (intOf i).toNat)
  case atStart => exact ⟨0, rfl, by omega, by omega, Lib.hid (World.ownsRow_nil _ _ _ _), Lib.hid (Below.refl _ _)⟩
  case round =>
    obtain ⟨k, rfl, hk1, hk2, HO, HB⟩ := hrel
    have i0 : (0 : Int) ≤ (k : Int) := by omega
    obtain ⟨A5, c5, rfl, hc5, hE5⟩ := holdsE_own HO.out
    by_cases h1 : k < l.length
    · have i1 : (k : Int) < (l.length : Int) := by omega
      by_cases h2 : k < 40
      · have i2 : (k : Int) < 40 := by omega
        have hx := List.getElem?_eq_getElem h1
        have hsx := HS.out _ (List.getElem_mem h1)
        obtain ⟨b, off, rfl, c1, c1'⟩ := (HH.out.below HB.out) k l[k] hx
        have hF : fewToE l (k + 1) = fewToE l k ++ [few1E l[k]] := by unfold fewToE; rw [List.take_succ_eq_append_getElem h1, List.map_append]; rfl
        have hfl := fewToE_len l k
        generalize l[k] = x at *
        have m0 : (0 : Int) ≤ min (x.name.size : Int) 50 := by omega
        have m1 : min (x.name.size : Int) 50 ≤ (x.name.size : Int) := by omega
        have m2 : (min (x.name.size : Int) 50).toNat = min x.name.size 50 := by omega
        have hE : x.name.extract 0 (min x.name.size 50) = cutName x.name := rfl
        have hsz := HB.out.size
        have hbA : Below wr.heap.size wr ((wr.alloc (.cells #[.string (cutName x.name), .bool x.fn] 30)).drew) := (below_new wr _).drew
        have hgA : ((wr.alloc (.cells #[.string (cutName x.name), .bool x.fn] 30)).drew).heap[wr.heap.size]? = some (.cells #[.string (few1E x).name, .bool (few1E x).fn] 30 (0, 0)) := heap_alloc_new wr _
        obtain ⟨A9, c9, w9, hrun, hN9, hgr9⟩ := push_own (x := few1E x) hgA (Gz.own_below HO.out hbA) (by omega) (by simp; omega)
        have HN9 := Lib.hid (show w9.ownsRow w.heap.size 30 2 (.slice A9 ((fewToE l k).length + 1) c9) (fewToE l (k + 1)).length (bdCells (fewToE l (k + 1))) by rw [hF]; exact hN9)
        have HB9 := Lib.hid (((HB.out.trans (hbA.mono hsz))).grown hgr9 (by simp; omega) (fun j e => Gz.ownBlock_ge HO.out j e))
        have c2 : (wr.alloc (.cells #[.string (cutName x.name), .bool x.fn] 30)).drew.cell? ⟨b, off + k * 2, none⟩ = some (.string x.name) := (hbA.cell (p := ⟨b, off + k * 2, none⟩) (cell_lt c1)).trans c1
        have c2' : (wr.alloc (.cells #[.string (cutName x.name), .bool x.fn] 30)).drew.cell? ⟨b, off + k * 2 + 1, none⟩ = some (.bool x.fn) := (hbA.cell (p := ⟨b, off + k * 2 + 1, none⟩) (cell_lt c1')).trans c1'
        obtain ⟨b', off', e', c3, c3'⟩ := (HH.out.below HB9.out) k x hx
        cases e'
        clear hx hF hN9 hgr9 hgA hE5
        go_wp2_with fail
        refine wp_region_ordz (S := fun w' => w'.cell? ⟨b, off + k * 2, none⟩ = some (.string x.name) ∧ w'.cell? ⟨b, off + k * 2 + 1, none⟩ = some (.bool x.fn)) [0, 1, 2, 3, 4, 5, 6, 7, 8, 9, 10, 11, 12, 13, 14, 15, 16, 17, 18, 19] [20, 21, 22] 22 (by kernel_rfl) (by kernel_rfl) (fun _ _ _ _ _ h => h) ⟨c1, c1'⟩ ?_
        simp only [pick, List.filterMap_cons, List.filterMap_nil, List.getElem?_toArray, List.getElem?_cons_zero, List.getElem?_cons_succ]
        repeat (refine wpHead_step (v := ?_) rfl ?_ ?_; rotate_left; (focus (rintro w1 ⟨d1, d2⟩; go_simp; try with_reducible rfl)); simp only [Act.put, List.setIfInBounds_toArray, List.set_cons_zero, List.set_cons_succ])
        refine wpHead_nil ?_
        refine wpTailZ_step rfl (fun K hK => ?_)
        go_wp2_with fail
        refine hK _ _ ⟨c2, c2'⟩ ?_
        clear hK K
        try simp only [Act.put, List.setIfInBounds_toArray, List.set_cons_zero, List.set_cons_succ]
        refine wpTailZ_step rfl (fun K hK => ?_)
        refine Nz.wp_append_run _ _ 22 22 rfl rfl rfl hrun ?_
        refine hK _ _ ⟨c3, c3'⟩ ?_
        clear hK K
        try simp only [Act.put, List.setIfInBounds_toArray, List.set_cons_zero, List.set_cons_succ]
        refine wpTailZ_last rfl (fun K hK => ?_)
        go_wp2_with fail
        go_roundw
        case rel => exact ⟨k + 1, by go_num, by omega, by omega, HN9, HB9⟩
        case measure => simp [intOf]; omega
      · have i2 : ¬ (k : Int) < 40 := by omega
        obtain rfl : k = 40 := by omega
        have HE5 := Lib.hid hE5
        clear hE5
        go_wp2_with fail
        go_ret
        exact ⟨A5, c5, rfl, HE5.out, hc5, HB.out⟩
    · have i1 : ¬ (k : Int) < (l.length : Int) := by omega
      have hE : fewE l = fewToE l k := by
        unfold fewE fewToE
        rw [List.take_of_length_le (by omega), List.take_of_length_le (by omega)]
      have HE5 := Lib.hid hE5
      have HEq := Lib.hid hE
      clear hE hE5
      go_wp2_with fail
      go_ret
      rw [HEq.out]
      exact ⟨A5, c5, rfl, HE5.out, hc5, HB.out⟩

/-! ### Tokens of one's own -/
theorem infoTok' : (Tryz.prog.info? 37).map (fun i => (i.zero, i.size, i.bytes)) = some (some (.agg #[.int .i64 0, .string ByteArray.empty, .string ByteArray.empty]), 3, 40) := by kernel_rfl
/-- Tokens are appended to a row of one's own. -/
theorem push_toks {W : World} {base : Nat} {v : Value} {l m : List Tok} {B : Option Addr} {d : Nat} (hown : W.ownsRow base 37 3 v l.length (Gz.tokCells l)) (hm : HoldsT W B m) (h1 : l.length ≤ 10000) (h2 : m.length ≤ 10000) (hbase : base ≤ W.heap.size) :
    ∃ A c w', (Builtin.append_ #[34, 34] 34 #[v, .slice B m.length d]).run Tryz.prog W = .ok (.slice A (l.length + m.length) c) w' ∧ w'.ownsRow base 37 3 (.slice A (l.length + m.length) c) (l ++ m).length (Gz.tokCells (l ++ m)) ∧ W.grownBy w' v.ownBlock := by
  obtain ⟨i, hi, hz, hsize, hby⟩ := info_parts infoTok'
  have he : Gz.tokCells (l ++ m) = Gz.tokCells l ++ Gz.tokCells m := Gz.tokCells_append l m
  have hl : (l ++ m).length = l.length + m.length := List.length_append
  rw [he, hl]
  cases B with
  | none =>
    have hn : m = [] := by
      cases m with
      | nil => rfl
      | cons x m =>
        obtain ⟨b, off, e, _⟩ := hm 0 x rfl
        cases e
    subst hn
    have ht := Tryz.underlying34
    have h : (Builtin.append_ #[34, 34] 34 #[v, .slice none 0 d]).run Tryz.prog W = .ok v W := by
      rcases hown.2 with ⟨rfl, h0⟩ | ⟨g, cap, cur, rfl, _, _, hnc, _⟩
      · simp [Builtin.append_, run_underlying ht, sizeOf, typeInfo, hi, Builtin.lenOf, Builtin.firstCells, loadCells, loadCellsFrom]
      · simp [Builtin.append_, run_underlying ht, sizeOf, typeInfo, hi, Builtin.lenOf, Builtin.firstCells, hnc, storeCells, loadCells, loadCellsFrom]
    obtain ⟨A, c, rfl, _, _⟩ := own_form hown
    exact ⟨A, c, W, h, by simpa [Gz.tokCells] using hown, ⟨rfl, rfl, rfl, Nat.le_refl _, fun _ _ _ => rfl⟩⟩
  | some ad =>
    have hnews : ∀ j u, (Gz.tokCells m)[j]? = some u → W.cell? (ad.add j) = some u := fun j u hj => by
      have hlt : 0 < m.length := by
        have := (List.getElem?_eq_some_iff.1 hj).1
        rw [Gz.tokCells_length] at this
        omega
      obtain ⟨b, off, e, _⟩ := hm 0 _ (List.getElem?_eq_getElem hlt)
      cases e
      exact Gz.holdsT_cells hm j u hj
    obtain ⟨v', w', r1, r2, r3, _⟩ := run_append_own (P := Tryz.prog) W base 34 34 37 i _ 3 40 Tryz.underlying34 hi hz hsize hby rfl (by decide) v l.length (Gz.tokCells l) hown ad m.length d (Gz.tokCells m) (Gz.tokCells_length m) hnews (Gz.tokCells_one' m) (by unfold maxLen; omega) (by omega) hbase
    obtain ⟨A, c, rfl, _, _⟩ := own_form r2
    exact ⟨A, c, w', r1, r2, r3⟩
theorem one_tok {W : World} {g : Nat} {x : Tok} (h : W.heap[g]? = some (.cells #[.int .i64 x.kind, .string x.text, .string x.glyph] 37 (0, 0))) : HoldsT W (some ⟨g, 0, none⟩) [x] := by
  intro k y hy
  match k, hy with
  | 0, hy =>
    cases hy
    exact ⟨g, 0, rfl, by simp [World.cell?, h], by simp [World.cell?, h], by simp [World.cell?, h]⟩
  | k + 1, hy => simp at hy
end Go.Proofs.YtebejlnegalokaaGreatDoor
