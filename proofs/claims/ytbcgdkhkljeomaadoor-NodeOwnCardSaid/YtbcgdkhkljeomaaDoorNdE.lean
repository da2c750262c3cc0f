/-
  Whether nodes are a tree, by the program.
-/
import Derived.Test.YtbcgdkhkljeomaaDoorProg
import Derived.Test.YtbcgdkhkljeomaaDoorReg
import Derived.WalkKit
import Derived.WalkSpells
import Derived.WalkLawsBesides
import Derived.Lib.Hide
import Derived.Lib.MinMax
import Derived.Deep.QuietTactic
import Derived.BigQuiet
import Derived.OwnWalk
import Derived.Deep.AppendLies
import Derived.KernelRfl
import Derived.Laws.OwnMore
import Derived.Deep.OwnRows
import Derived.Test.YtbcgdkhkljeomaaDoorNdD
set_option linter.unusedSimpArgs false
set_option linter.unusedVariables false
namespace Go.Proofs.YtbcgdkhkljeomaaDoor
open Go.RowKit

theorem infoInt : (Tryd.prog.info? 3).map (fun i => (i.zero, i.size, i.bytes)) = some (some (.int .i64 0), 1, 8) := by kernel_rfl
theorem intCells_set (l : List Int) (k : Nat) (x : Int) : (intCells l).set k (.int .i64 x) = intCells (l.set k x) := by simp [intCells, List.map_set]
/-- A made slice of n numbers. -/
theorem made_ints (w : World) (n : Nat) (hn : n ≤ 1000000) : (w.alloc (.cells (madeCells #[.int .i64 0] n) 3)).ownsRow w.heap.size 3 1 (.slice (some ⟨w.heap.size, 0, none⟩) n n) n (intCells (cnts n [])) := by
  rw [cnts_none, show intCells (List.replicate n 0) = (madeCells #[.int .i64 0] n).toList by rw [toList_madeCells_one]; simp [intCells]]
  exact World.ownsRow_lit w _ n (Nat.le_refl _) (by unfold maxLen; omega) (by rw [size_madeCells, Nat.mul_one])
theorem kidsAll_app (a b : List Nd) : kidsAll (a ++ b) = kidsAll a ++ kidsAll b := by simp [kidsAll]
theorem count_le (L : List Int) (k : Int) : L.count k ≤ L.length := List.count_le_length
theorem kidsAll_le : ∀ (l : List Nd), (∀ x ∈ l, x.kids.length ≤ 1000) → (kidsAll l).length ≤ 1000 * l.length
  | [], _ => by simp [kidsAll]
  | x :: l, h => by
    have h1 := kidsAll_le l (fun y hy => h y (List.mem_cons_of_mem _ hy))
    have h2 := h x List.mem_cons_self
    have : kidsAll (x :: l) = x.kids ++ kidsAll l := by simp [kidsAll]
    rw [this, List.length_append, List.length_cons]
    omega
theorem take_one {α : Type} {l : List α} {k : Nat} {x : α} (h : l[k]? = some x) : l.take (k + 1) = l.take k ++ [x] := by
  rw [List.take_add_one, h]; rfl
theorem drop_one {α : Type} {l : List α} {k : Nat} {x : α} (h : l[k]? = some x) : l.drop k = x :: l.drop (k + 1) := by
  have hk : k < l.length := by
    rcases Nat.lt_or_ge k l.length with h1 | h1
    · exact h1
    · rw [List.getElem?_eq_none h1] at h; cases h
  rw [List.drop_eq_getElem_cons hk]
  rw [List.getElem?_eq_getElem hk] at h
  rw [Option.some.inj h]
/-- The end of it. -/
theorem right_end {n : Nat} {L : List Int} (h1 : 1 ≤ n) (hL : ∀ k ∈ L, 0 ≤ k ∧ k + 1 < (n : Int)) :
    (!(((cnts n L).set (n - 1) (((L.count (((n - 1 : Nat) : Int))) : Int) + 1)).any (· != 1))) = (List.range (n - 1)).all fun (j : Nat) => L.count (j : Int) == 1 := by
  have hz : L.count ((n - 1 : Nat) : Int) = 0 := List.count_eq_zero_of_not_mem (fun hm => by have := hL _ hm; omega)
  rw [hz]
  rw [Bool.eq_iff_iff]
  simp only [Bool.not_eq_true', List.any_eq_false, List.all_eq_true, List.mem_range, beq_iff_eq, bne_iff_ne, ne_eq, Decidable.not_not]
  constructor
  · intro h j hj
    have hm : (((L.count (j : Int)) : Nat) : Int) ∈ (cnts n L).set (n - 1) (((0 : Nat) : Int) + 1) := by
      refine List.mem_of_getElem? (i := j) ?_
      rw [List.getElem?_set, if_neg (by omega), cnts_get (by omega)]
    have := h _ hm
    omega
  · intro h x hx
    obtain ⟨j, hj⟩ := List.getElem?_of_mem hx
    have hlt : j < n := by
      rcases Nat.lt_or_ge j n with h1 | h1
      · exact h1
      · rw [List.getElem?_eq_none (by rw [List.length_set, cnts_length]; exact h1)] at hj; cases hj
    rw [List.getElem?_set] at hj
    by_cases e : n - 1 = j
    · rw [if_pos e, if_pos (by rw [cnts_length]; omega)] at hj
      have := Option.some.inj hj
      omega
    · rw [if_neg e, cnts_get hlt] at hj
      have := h j (by omega)
      have := Option.some.inj hj
      omega

set_option maxRecDepth 100000 in
set_option maxHeartbeats 8000000 in
theorem right_any (t : List Nd) (A : Option Addr) (c : Nat) (w : World) (hh : HoldsN w A t) (hi : IntN t) :
    Calls Tryd.prog 23 #[.slice A t.length c] w fun e w' => e = .returned (.bool (rightN t)) ∧ Below w.heap.size w w' := by
  have HR : Hid (rightN t = (decide (1 ≤ t.length) && decide (t.length ≤ 400) && nodesOk 0 t && (List.range (t.length - 1)).all fun j => (kidsAll t).count (j : Int) == 1)) := Lib.hid rfl
  generalize rightN t = R at *
  have HH := Lib.hid hh
  have HI := Lib.hid hi
  clear hh hi
  have HF := Lib.hid isForm_any
  by_cases h1 : t.length < 1
  · have h1' : (t.length : Int) < 1 := by omega
    have HS : Hid (R = false) := Lib.hid (by rw [HR.out, decide_eq_false (show ¬ 1 ≤ t.length by omega)]; rfl)
    go_enter Tryd.func23, Tryd.ntmps23
    go_wp2
    go_ret
    rw [HS.out]
    exact ⟨rfl, Below.refl _ _⟩
  by_cases h2 : 400 < t.length
  · have h1' : ¬ (t.length : Int) < 1 := by omega
    have h2' : (400 : Int) < (t.length : Int) := by omega
    have HS : Hid (R = false) := Lib.hid (by rw [HR.out, decide_eq_false (show ¬ t.length ≤ 400 by omega)]; simp)
    go_enter Tryd.func23, Tryd.ntmps23
    go_wp2
    go_ret
    rw [HS.out]
    exact ⟨rfl, Below.refl _ _⟩
  have HS : Hid (R = (nodesOk 0 t && (List.range (t.length - 1)).all fun j => (kidsAll t).count (j : Int) == 1)) := Lib.hid (by rw [HR.out, decide_eq_true (show 1 ≤ t.length by omega), decide_eq_true (show t.length ≤ 400 by omega)]; rfl)
  clear HR
  have h1' : ¬ (t.length : Int) < 1 := by omega
  have h2' : ¬ (400 : Int) < (t.length : Int) := by omega
  have hmk := run_make_row' (P := Tryd.prog) 35 3 (.int .i64 0) 8 (by kernel_rfl) infoInt rfl .i64 .i64 t.length (by omega) (by omega)
  have hown0 := made_ints w t.length (by omega)
  have hb0 : Below w.heap.size w (w.alloc (.cells (madeCells #[.int .i64 0] t.length) 3)) := (Below.refl _ _).alloc (Nat.le_refl _) _
  go_enter Tryd.func23, Tryd.ntmps23
  go_wp2
  clear hmk
  generalize w.alloc (.cells (madeCells #[.int .i64 0] t.length) 3) = w1 at *
  go_loopw [22] (fun v wr => ∃ i : Nat, v = .int .i64 i ∧ i ≤ t.length ∧ Hid (nodesOk 0 t = nodesOk i (t.drop i)) ∧ Hid (∀ k ∈ kidsAll (t.take i), 0 ≤ k ∧ k + 1 < (i : Int)) ∧
      Hid (wr.ownsRow w.heap.size 3 1 (.slice (some ⟨w.heap.size, 0, none⟩) t.length t.length) t.length (intCells (cnts t.length (kidsAll (t.take i))))) ∧ Hid (Below w.heap.size w wr))
    (fun v _ => t.length - (intOf v).toNat)
  case atStart => exact ⟨0, rfl, Nat.zero_le _, Lib.hid rfl, Lib.hid (fun k hk => by simp [kidsAll] at hk), Lib.hid hown0, Lib.hid hb0⟩
  case round =>
    clear hown0 hb0
    obtain ⟨i, rfl, hi, HN, HK, HO, HB⟩ := hrel
    by_cases hlt : i < t.length
    · have g := List.getElem?_eq_getElem hlt
      have hmem := List.getElem_mem hlt
      generalize t[i] = x at *
      obtain ⟨b, off, rfl, c0, c1, B, c2, c3, hK, hc⟩ := HH.out i x g
      obtain ⟨z1, z2, z3, z4⟩ := HI.out x hmem
      have lb : b < w.heap.size := cell_lt c0
      have hb := HB.out
      have d0 := (hb.cell (p := ⟨b, _, none⟩) lb).trans c0
      have d1 := (hb.cell (p := ⟨b, _, none⟩) lb).trans c1
      have d2 := (hb.cell (p := ⟨b, _, none⟩) lb).trans c3
      have HKx := Lib.hid hK
      have HZ1 := Lib.hid z1
      have HG := Lib.hid g
      have HM := Lib.hid (take_one g)
      have HD : Hid (nodesOk i (t.drop i) = (kidsOk i (-1) x.kids && formOk x && nodesOk (i + 1) (t.drop (i + 1)))) := Lib.hid (by rw [drop_one g]; rfl)
      clear c0 c1 c3 hK g hmem z4 z1
      have hW0 : (wr.alloc (.cells #[.int .i64 x.kind, .string x.text, .slice B x.kids.length c2] 37)).heap[wr.heap.size]? = some (.cells #[.int .i64 x.kind, .string x.text, .slice B x.kids.length c2] 37 (0, 0)) := heap_alloc_new _ _
      have hBW0 : Below w.heap.size w (wr.alloc (.cells #[.int .i64 x.kind, .string x.text, .slice B x.kids.length c2] 37)) := hb.alloc hb.size _
      have hOW0 := HO.out.alloc (.cells #[.int .i64 x.kind, .string x.text, .slice B x.kids.length c2] 37)
      have hP : w.heap.size < wr.heap.size := by
        have h := HO.out
        exact ownBlock_lt h _ rfl
      clear hb
      go_wp2_with fail
      generalize (wr.alloc (.cells #[.int .i64 x.kind, .string x.text, .slice B x.kids.length c2] 37)) = W0 at *
      generalize hPP : wr.heap.size = P at *
      clear hPP HO HB d0 d1 d2
      go_loopw [6, 30] (fun l v wr => ∃ (q : Nat) (last : Int), l = .int .i64 last ∧ v = .int .i64 q ∧ q ≤ x.kids.length ∧ -1 ≤ last ∧ Hid (kidsOk i (-1) x.kids = kidsOk i last (x.kids.drop q)) ∧ Hid (∀ k ∈ x.kids.take q, 0 ≤ k ∧ k < (i : Int)) ∧
        Hid (wr.ownsRow w.heap.size 3 1 (.slice (some ⟨w.heap.size, 0, none⟩) t.length t.length) t.length (intCells (cnts t.length (kidsAll (t.take i) ++ x.kids.take q)))) ∧
        wr.heap[P]? = some (.cells #[.int .i64 x.kind, .string x.text, .slice B x.kids.length c2] 37 (0, 0)) ∧ Hid (Below w.heap.size w wr))
        (fun _ v _ => x.kids.length - (intOf v).toNat)
      case atStart => exact ⟨0, -1, rfl, rfl, Nat.zero_le _, by omega, Lib.hid rfl, Lib.hid (fun k hk => by simp at hk), Lib.hid (by rw [List.take_zero, List.append_nil]; exact hOW0), hW0, Lib.hid hBW0⟩
      case round =>
        clear hOW0 hW0 hBW0
        obtain ⟨q, last, rfl, rfl, hq, hl1, HKO, HKK, HO2, hrow, HB2⟩ := hrel
        by_cases hlt2 : q < x.kids.length
        · have g2 := List.getElem?_eq_getElem hlt2
          have HKS : Hid (kidsOk i last (x.kids.drop q) = (decide (last < x.kids[q]) && decide (x.kids[q] < i) && kidsOk i x.kids[q] (x.kids.drop (q + 1)))) := Lib.hid (by rw [drop_one g2]; rfl)
          have HM2 := Lib.hid (take_one g2)
          obtain ⟨b2, off2, rfl, e0⟩ := HKx.out q _ g2
          have hb2 := HB2.out
          have e1 := (hb2.cell (p := ⟨b2, _, none⟩) (cell_lt e0)).trans e0
          generalize x.kids[q] = k at *
          clear g2 e0 hb2
          by_cases hk1 : k ≤ last
          · have HSF : Hid (nodesOk 0 t = false) := Lib.hid (by rw [HN.out, HD.out, HKO.out, HKS.out, decide_eq_false (show ¬ last < k by omega)]; rfl)
            go_wp2_with fail
            go_ret
            rw [HS.out, HSF.out]
            exact ⟨rfl, HB2.out⟩
          by_cases hk2 : (i : Int) ≤ k
          · have HSF : Hid (nodesOk 0 t = false) := Lib.hid (by rw [HN.out, HD.out, HKO.out, HKS.out, decide_eq_false (show ¬ k < i by omega)]; simp)
            go_wp2_with fail
            go_ret
            rw [HS.out, HSF.out]
            exact ⟨rfl, HB2.out⟩
          have hk0 : 0 ≤ k := by omega
          have HKS2 : Hid (kidsOk i (-1) x.kids = kidsOk i k (x.kids.drop (q + 1))) := Lib.hid (by rw [HKO.out, HKS.out, decide_eq_true (show last < k by omega), decide_eq_true (show k < i by omega)]; simp)
          have hcnt : (kidsAll (t.take i) ++ x.kids.take q).count k ≤ 1000000 := by
            have h3 := count_le (kidsAll (t.take i) ++ x.kids.take q) k
            have h4 := kidsAll_le (t.take i) (fun y hy => (HI.out y (List.mem_of_mem_take hy)).2.1)
            rw [List.length_append] at h3
            simp only [List.length_take] at h3 h4
            omega
          have hkn : k.toNat < t.length := by omega
          have hget : (intCells (cnts t.length (kidsAll (t.take i) ++ x.kids.take q)))[k.toNat]? = some (.int .i64 ((kidsAll (t.take i) ++ x.kids.take q).count k)) := by
            simp only [intCells, List.getElem?_map, cnts_get hkn, Option.map_some]
            rw [show ((k.toNat : Nat) : Int) = k by omega]
          have e2 : wr.cell? ⟨w.heap.size, k.toNat, none⟩ = some (.int .i64 ((kidsAll (t.take i) ++ x.kids.take q).count k)) := (HO2.out.cellAt k.toNat (by omega)).trans hget
          have e3 : wr.frozen? ⟨w.heap.size, k.toNat, none⟩ = false := HO2.out.frozenAt k.toNat
          obtain ⟨ho3, hg3⟩ := HO2.out.stored k.toNat (.int .i64 ((((kidsAll (t.take i) ++ x.kids.take q).count k : Nat) : Int) + 1))
          have hrow3 := (hg3.block P (cell_lt (p := ⟨P, 0, none⟩) (v := .int .i64 x.kind) (by simp [World.cell?, hrow])) (by simp; omega)).trans hrow
          rw [intCells_set, cnts_put hk0 (by omega)] at ho3
          have HB3 := Lib.hid (HB2.out.setCell (p := ⟨w.heap.size, k.toNat, none⟩) (Nat.le_refl _) (.int .i64 ((((kidsAll (t.take i) ++ x.kids.take q).count k : Nat) : Int) + 1)))
          have HO3 := Lib.hid ho3
          generalize (kidsAll (t.take i) ++ x.kids.take q).count k = cn at *
          have hw3 : IntKind.i64.wrap ((cn : Int) + 1) = (cn : Int) + 1 := IntWalk.i64_in _ (by omega)
          have hkt : k < (t.length : Int) := by omega
          clear ho3 hg3 hget
          go_wp2_with fail
          go_roundw
          case rel =>
            refine ⟨q + 1, k, rfl, by go_num, by omega, by omega, HKS2, Lib.hid ?_, Lib.hid ?_, hrow3, HB3⟩
            · rw [HM2.out]
              intro y hy
              rcases List.mem_append.1 hy with hy | hy
              · exact HKK.out y hy
              · rw [List.mem_singleton.1 hy]; omega
            · rw [HM2.out, ← List.append_assoc]; exact HO3.out
          case measure => simp [intOf]; omega
        · obtain rfl : q = x.kids.length := by omega
          have HKK2 : Hid (∀ k ∈ x.kids, 0 ≤ k ∧ k < (i : Int)) := Lib.hid (by have h := HKK.out; rwa [List.take_of_length_le (Nat.le_refl _)] at h)
          have HO3 : Hid (wr.ownsRow w.heap.size 3 1 (.slice (some ⟨w.heap.size, 0, none⟩) t.length t.length) t.length (intCells (cnts t.length (kidsAll (t.take (i + 1)))))) := Lib.hid (by
            have h := HO2.out
            rw [List.take_of_length_le (Nat.le_refl _)] at h
            rw [HM.out, kidsAll_app, show kidsAll [x] = x.kids by simp [kidsAll]]
            exact h)
          have HD2 : Hid (nodesOk i (t.drop i) = (formOk x && nodesOk (i + 1) (t.drop (i + 1)))) := Lib.hid (by rw [HD.out, HKO.out, List.drop_of_length_le (Nat.le_refl _)]; simp [kidsOk])
          have e0 : wr.cell? ⟨P, 0, none⟩ = some (.int .i64 x.kind) := by simp [World.cell?, hrow]
          have e1 : wr.cell? ⟨P, 1, none⟩ = some (.string x.text) := by simp [World.cell?, hrow]
          have e2 : wr.cell? ⟨P, 2, none⟩ = some (.slice B x.kids.length c2) := by simp [World.cell?, hrow]
          have HFx := Lib.hid (fun W => HF.out x B c2 W HZ1.out (by omega))
          unfold Nd.value at HFx
          have HFO : Hid (∃ bo, formOk x = bo) := Lib.hid ⟨_, rfl⟩
          clear HD HKO hrow HO2 HF
          go_wp2_with fail
          refine (HFx.out _).mono ?_
          rintro e w4 ⟨rfl, hb4⟩
          clear HFx
          cases hfo : formOk x
          · have HSF : Hid (nodesOk 0 t = false) := Lib.hid (by rw [HN.out, HD2.out, hfo]; rfl)
            clear hfo
            go_wp2_with fail
            go_ret
            rw [HS.out, HSF.out]
            exact ⟨rfl, HB2.out.trans (hb4.mono HB2.out.size)⟩
          · have HSN : Hid (nodesOk 0 t = nodesOk (i + 1) (t.drop (i + 1))) := Lib.hid (by rw [HN.out, HD2.out, hfo]; rfl)
            clear hfo
            go_wp2_with fail
            go_roundw
            case rel =>
              refine ⟨i + 1, by go_num, by omega, HSN, Lib.hid ?_, Lib.hid (own_below HO3.out hb4), Lib.hid (HB2.out.trans (hb4.mono HB2.out.size))⟩
              intro y hy
              rw [HM.out, kidsAll_app, show kidsAll [x] = x.kids by simp [kidsAll]] at hy
              rcases List.mem_append.1 hy with hy | hy
              · have := HK.out y hy; omega
              · have := HKK2.out y hy; omega
            case measure => simp [intOf]; omega
    · obtain rfl : i = t.length := by omega
      have hc0 : (kidsAll t).count ((t.length - 1 : Nat) : Int) ≤ 1000000 := by
        have h3 := count_le (kidsAll t) ((t.length - 1 : Nat) : Int)
        have h4 := kidsAll_le t (fun y hy => (HI.out y hy).2.1)
        omega
      have ho := HO.out
      have hk := HK.out
      rw [List.take_of_length_le (Nat.le_refl _)] at ho hk
      have hnok : Hid (nodesOk 0 t = true) := Lib.hid (by rw [HN.out, List.drop_of_length_le (Nat.le_refl _)]; rfl)
      have hend := right_end (by omega) hk
      have hget : (intCells (cnts t.length (kidsAll t)))[t.length - 1]? = some (.int .i64 ((kidsAll t).count ((t.length - 1 : Nat) : Int))) := by
        simp only [intCells, List.getElem?_map, cnts_get (show t.length - 1 < t.length by omega), Option.map_some]
      have e2 : wr.cell? ⟨w.heap.size, t.length - 1, none⟩ = some (.int .i64 ((kidsAll t).count ((t.length - 1 : Nat) : Int))) := (ho.cellAt (t.length - 1) (by omega)).trans hget
      have e3 : wr.frozen? ⟨w.heap.size, t.length - 1, none⟩ = false := ho.frozenAt (t.length - 1)
      obtain ⟨ho3, hg3⟩ := ho.stored (t.length - 1) (.int .i64 ((((kidsAll t).count ((t.length - 1 : Nat) : Int) : Nat) : Int) + 1))
      rw [intCells_set] at ho3
      have HS2 : Hid (R = (!(((cnts t.length (kidsAll t)).set (t.length - 1) ((((kidsAll t).count ((t.length - 1 : Nat) : Int) : Nat) : Int) + 1)).any (· != 1)))) := Lib.hid (by rw [HS.out, hnok.out, hend]; rfl)
      have hlen2 : ((cnts t.length (kidsAll t)).set (t.length - 1) ((((kidsAll t).count ((t.length - 1 : Nat) : Int) : Nat) : Int) + 1)).length = t.length := by rw [List.length_set, cnts_length]
      have HB3 := Lib.hid (HB.out.setCell (p := ⟨w.heap.size, t.length - 1, none⟩) (Nat.le_refl _) (.int .i64 ((((kidsAll t).count ((t.length - 1 : Nat) : Int) : Nat) : Int) + 1)))
      generalize (kidsAll t).count ((t.length - 1 : Nat) : Int) = cn at *
      generalize (cnts t.length (kidsAll t)).set (t.length - 1) ((cn : Int) + 1) = U at *
      obtain ⟨AU, cU, eU, hnU, hHU, hcU⟩ := holdsI_of_own ho3
      simp only [Value.slice.injEq] at eU
      obtain ⟨rfl, -, rfl⟩ := eU
      have Hcf := Lib.hid (containsFunc_any (some ⟨w.heap.size, 0, none⟩) U t.length _ (by omega) hHU)
      rw [hlen2] at Hcf
      have hw3 : IntKind.i64.wrap ((cn : Int) + 1) = (cn : Int) + 1 := IntWalk.i64_in _ (by omega)
      have hw4 : IntKind.i64.wrap ((t.length : Int) - 1) = (t.length : Int) - 1 := IntWalk.i64_in _ (by omega)
      have hw5 : ((t.length : Int) - 1).toNat = t.length - 1 := by omega
      have hw6 : (0 : Int) ≤ (t.length : Int) - 1 := by omega
      have hw7 : (t.length : Int) - 1 < (t.length : Int) := by omega
      clear ho ho3 hg3 hget hk hend hnok HO hnU hHU hlen2
      go_wp2_with fail
      refine Hcf.out.mono ?_
      rintro e w4 ⟨rfl, rfl⟩
      go_wp2
      go_ret
      rw [HS2.out]
      exact ⟨rfl, HB3.out⟩
end Go.Proofs.YtbcgdkhkljeomaaDoor
