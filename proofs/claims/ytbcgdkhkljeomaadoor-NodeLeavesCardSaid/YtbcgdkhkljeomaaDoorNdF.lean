/-
  Whether nodes are a tree, by the reference.
-/
import Derived.Test.YtbcgdkhkljeomaaDoorProg
import Derived.Test.YtbcgdkhkljeomaaDoorReg
import Derived.WalkKit
import Derived.WalkSpells
import Derived.WalkLawsBesides
import Derived.Lib.Hide
import Derived.Lib.MinMax
import Derived.Deep.QuietTactic
import Derived.BigQuiet
import Derived.OwnWalk
import Derived.Deep.AppendLies
import Derived.KernelRfl
import Derived.Laws.OwnMore
import Derived.Deep.OwnRows
import Derived.Test.YtbcgdkhkljeomaaDoorNdE
import Derived.Test.YtbcgdkhkljeomaaDoorNdC
set_option linter.unusedSimpArgs false
set_option linter.unusedVariables false
namespace Go.Proofs.YtbcgdkhkljeomaaDoor
open Go.RowKit

theorem all_split (L : List Int) (k n : Nat) (hk : k < n) : ((List.range' k (n - k)).all fun (j : Nat) => L.count (j : Int) == 1) = ((L.count (k : Int) == 1) && (List.range' (k + 1) (n - (k + 1))).all fun (j : Nat) => L.count (j : Int) == 1) := by
  rw [show n - k = (n - (k + 1)) + 1 by omega, List.range'_succ]
  rfl

set_option maxRecDepth 100000 in
set_option maxHeartbeats 8000000 in
theorem refRight_any (t : List Nd) (A : Option Addr) (c : Nat) (w : World) (hh : HoldsN w A t) (hi : IntN t) :
    Calls Tryd.prog 24 #[.slice A t.length c] w fun e w' => e = .returned (.bool (rightN t)) ∧ Below w.heap.size w w' := by
  have HR : Hid (rightN t = (decide (1 ≤ t.length) && decide (t.length ≤ 400) && nodesOk 0 t && (List.range (t.length - 1)).all fun j => (kidsAll t).count (j : Int) == 1)) := Lib.hid rfl
  generalize rightN t = R at *
  have HH := Lib.hid hh
  have HI := Lib.hid hi
  clear hh hi
  have HF := Lib.hid refForm_any
  by_cases h1 : t.length < 1
  · have h1' : (t.length : Int) < 1 := by omega
    have HS : Hid (R = false) := Lib.hid (by rw [HR.out, decide_eq_false (show ¬ 1 ≤ t.length by omega)]; rfl)
    go_enter Tryd.func24, Tryd.ntmps24
    go_wp2
    go_ret
    rw [HS.out]
    exact ⟨rfl, Below.refl _ _⟩
  by_cases h2 : 400 < t.length
  · have h1' : ¬ (t.length : Int) < 1 := by omega
    have h2' : (400 : Int) < (t.length : Int) := by omega
    have HS : Hid (R = false) := Lib.hid (by rw [HR.out, decide_eq_false (show ¬ t.length ≤ 400 by omega)]; simp)
    go_enter Tryd.func24, Tryd.ntmps24
    go_wp2
    go_ret
    rw [HS.out]
    exact ⟨rfl, Below.refl _ _⟩
  have HS : Hid (R = (nodesOk 0 t && (List.range (t.length - 1)).all fun j => (kidsAll t).count (j : Int) == 1)) := Lib.hid (by rw [HR.out, decide_eq_true (show 1 ≤ t.length by omega), decide_eq_true (show t.length ≤ 400 by omega)]; rfl)
  clear HR
  have h1' : ¬ (t.length : Int) < 1 := by omega
  have h2' : ¬ (400 : Int) < (t.length : Int) := by omega
  have hmk := run_make_row' (P := Tryd.prog) 35 3 (.int .i64 0) 8 (by kernel_rfl) infoInt rfl .i64 .i64 t.length (by omega) (by omega)
  have hown0 := made_ints w t.length (by omega)
  have hb0 : Below w.heap.size w (w.alloc (.cells (madeCells #[.int .i64 0] t.length) 3)) := (Below.refl _ _).alloc (Nat.le_refl _) _
  go_enter Tryd.func24, Tryd.ntmps24
  go_wp2
  clear hmk
  generalize w.alloc (.cells (madeCells #[.int .i64 0] t.length) 3) = w1 at *
  go_loopw [4] (fun v wr => ∃ i : Nat, v = .int .i64 i ∧ i ≤ t.length ∧ Hid (nodesOk 0 t = nodesOk i (t.drop i)) ∧ Hid (∀ k ∈ kidsAll (t.take i), 0 ≤ k ∧ k + 1 < (i : Int)) ∧
      Hid (wr.ownsRow w.heap.size 3 1 (.slice (some ⟨w.heap.size, 0, none⟩) t.length t.length) t.length (intCells (cnts t.length (kidsAll (t.take i))))) ∧ Hid (Below w.heap.size w wr))
    (fun v _ => t.length - (intOf v).toNat)
  case atStart => exact ⟨0, rfl, Nat.zero_le _, Lib.hid rfl, Lib.hid (fun k hk => by simp [kidsAll] at hk), Lib.hid hown0, Lib.hid hb0⟩
  case round =>
    clear hown0 hb0
    obtain ⟨i, rfl, hi, HN, HK, HO, HB⟩ := hrel
    by_cases hlt : i < t.length
    · have g := List.getElem?_eq_getElem hlt
      have hmem := List.getElem_mem hlt
      generalize t[i] = x at *
      obtain ⟨b, off, rfl, c0, c1, B, c2, c3, hK, hc⟩ := HH.out i x g
      obtain ⟨z1, z2, z3, z4⟩ := HI.out x hmem
      have lb : b < w.heap.size := cell_lt c0
      have hb := HB.out
      have d0 := (hb.cell (p := ⟨b, _, none⟩) lb).trans c0
      have d1 := (hb.cell (p := ⟨b, _, none⟩) lb).trans c1
      have d2 := (hb.cell (p := ⟨b, _, none⟩) lb).trans c3
      have HKx := Lib.hid hK
      have HZ1 := Lib.hid z1
      have HG := Lib.hid g
      have HM := Lib.hid (take_one g)
      have HD : Hid (nodesOk i (t.drop i) = (kidsOk i (-1) x.kids && formOk x && nodesOk (i + 1) (t.drop (i + 1)))) := Lib.hid (by rw [drop_one g]; rfl)
      clear c0 c1 hK g hmem z4 z1
      have HFx := Lib.hid (fun W => HF.out x B c2 W (by omega))
      unfold Nd.value at HFx
      have hnn : (0 : Int) ≤ x.kids.length := by omega
      go_wp2_with fail
      refine (HFx.out _).mono ?_
      rintro e W0 ⟨rfl, hbf⟩
      clear HFx d0 d1 d2
      have HB0 : Hid (Below w.heap.size w W0) := Lib.hid (hb.trans (hbf.mono hb.size))
      have HO0 := Lib.hid (own_below HO.out hbf)
      clear HO HB hb hbf
      cases hfo : formOk x
      · have HSF : Hid (nodesOk 0 t = false) := Lib.hid (by rw [HN.out, HD.out, hfo]; simp)
        clear hfo
        go_wp2_with fail
        go_ret
        rw [HS.out, HSF.out]
        exact ⟨rfl, HB0.out⟩
      have HD1 : Hid (nodesOk i (t.drop i) = (kidsOk i (-1) x.kids && nodesOk (i + 1) (t.drop (i + 1)))) := Lib.hid (by rw [HD.out, hfo]; simp)
      clear hfo HD
      have HC3 := Lib.hid c3
      clear c3
      go_wp2_with fail
      go_loopw [5, 6] (fun l v wr => ∃ (q : Nat) (last : Int), l = .int .i64 last ∧ v = .int .i64 q ∧ q ≤ x.kids.length ∧ -1 ≤ last ∧ Hid (kidsOk i (-1) x.kids = kidsOk i last (x.kids.drop q)) ∧ Hid (∀ k ∈ x.kids.take q, 0 ≤ k ∧ k < (i : Int)) ∧
        Hid (wr.ownsRow w.heap.size 3 1 (.slice (some ⟨w.heap.size, 0, none⟩) t.length t.length) t.length (intCells (cnts t.length (kidsAll (t.take i) ++ x.kids.take q)))) ∧ Hid (Below w.heap.size w wr))
        (fun _ v _ => x.kids.length - (intOf v).toNat)
      case atStart => exact ⟨0, -1, rfl, rfl, Nat.zero_le _, by omega, Lib.hid rfl, Lib.hid (fun k hk => by simp at hk), Lib.hid (by rw [List.take_zero, List.append_nil]; exact HO0.out), HB0⟩
      case round =>
        clear HO0 HB0
        obtain ⟨q, last, rfl, rfl, hq, hl1, HKO, HKK, HO2, HB2⟩ := hrel
        have d2 := (HB2.out.cell (p := ⟨b, _, none⟩) lb).trans HC3.out
        by_cases hlt2 : q < x.kids.length
        · have g2 := List.getElem?_eq_getElem hlt2
          have HKS : Hid (kidsOk i last (x.kids.drop q) = (decide (last < x.kids[q]) && decide (x.kids[q] < i) && kidsOk i x.kids[q] (x.kids.drop (q + 1)))) := Lib.hid (by rw [drop_one g2]; rfl)
          have HM2 := Lib.hid (take_one g2)
          obtain ⟨b2, off2, rfl, e0⟩ := HKx.out q _ g2
          have hb2 := HB2.out
          have e1 := (hb2.cell (p := ⟨b2, _, none⟩) (cell_lt e0)).trans e0
          generalize x.kids[q] = k at *
          clear g2 e0 hb2
          by_cases hk1 : k ≤ last
          · have HSF : Hid (nodesOk 0 t = false) := Lib.hid (by rw [HN.out, HD1.out, HKO.out, HKS.out, decide_eq_false (show ¬ last < k by omega)]; rfl)
            go_wp2_with fail
            go_ret
            rw [HS.out, HSF.out]
            exact ⟨rfl, HB2.out⟩
          by_cases hk2 : (i : Int) ≤ k
          · have HSF : Hid (nodesOk 0 t = false) := Lib.hid (by rw [HN.out, HD1.out, HKO.out, HKS.out, decide_eq_false (show ¬ k < i by omega)]; simp)
            go_wp2_with fail
            go_ret
            rw [HS.out, HSF.out]
            exact ⟨rfl, HB2.out⟩
          have hk0 : 0 ≤ k := by omega
          have HKS2 : Hid (kidsOk i (-1) x.kids = kidsOk i k (x.kids.drop (q + 1))) := Lib.hid (by rw [HKO.out, HKS.out, decide_eq_true (show last < k by omega), decide_eq_true (show k < i by omega)]; simp)
          have hcnt : (kidsAll (t.take i) ++ x.kids.take q).count k ≤ 1000000 := by
            have h3 := count_le (kidsAll (t.take i) ++ x.kids.take q) k
            have h4 := kidsAll_le (t.take i) (fun y hy => (HI.out y (List.mem_of_mem_take hy)).2.1)
            rw [List.length_append] at h3
            simp only [List.length_take] at h3 h4
            omega
          have hkn : k.toNat < t.length := by omega
          have hget : (intCells (cnts t.length (kidsAll (t.take i) ++ x.kids.take q)))[k.toNat]? = some (.int .i64 ((kidsAll (t.take i) ++ x.kids.take q).count k)) := by
            simp only [intCells, List.getElem?_map, cnts_get hkn, Option.map_some]
            rw [show ((k.toNat : Nat) : Int) = k by omega]
          have e2 : wr.cell? ⟨w.heap.size, k.toNat, none⟩ = some (.int .i64 ((kidsAll (t.take i) ++ x.kids.take q).count k)) := (HO2.out.cellAt k.toNat (by omega)).trans hget
          have e3 : wr.frozen? ⟨w.heap.size, k.toNat, none⟩ = false := HO2.out.frozenAt k.toNat
          obtain ⟨ho3, hg3⟩ := HO2.out.stored k.toNat (.int .i64 ((((kidsAll (t.take i) ++ x.kids.take q).count k : Nat) : Int) + 1))
          rw [intCells_set, cnts_put hk0 (by omega)] at ho3
          have HB3 := Lib.hid (HB2.out.setCell (p := ⟨w.heap.size, k.toNat, none⟩) (Nat.le_refl _) (.int .i64 ((((kidsAll (t.take i) ++ x.kids.take q).count k : Nat) : Int) + 1)))
          have HO3 := Lib.hid ho3
          generalize (kidsAll (t.take i) ++ x.kids.take q).count k = cn at *
          have hw3 : IntKind.i64.wrap ((cn : Int) + 1) = (cn : Int) + 1 := IntWalk.i64_in _ (by omega)
          have hkt : k < (t.length : Int) := by omega
          clear ho3 hg3 hget
          go_wp2_with fail
          go_roundw
          case rel =>
            refine ⟨q + 1, k, rfl, by go_num, by omega, by omega, HKS2, Lib.hid ?_, Lib.hid ?_, HB3⟩
            · rw [HM2.out]
              intro y hy
              rcases List.mem_append.1 hy with hy | hy
              · exact HKK.out y hy
              · rw [List.mem_singleton.1 hy]; omega
            · rw [HM2.out, ← List.append_assoc]; exact HO3.out
          case measure => simp [intOf]; omega
        · obtain rfl : q = x.kids.length := by omega
          have HKK2 : Hid (∀ k ∈ x.kids, 0 ≤ k ∧ k < (i : Int)) := Lib.hid (by have h := HKK.out; rwa [List.take_of_length_le (Nat.le_refl _)] at h)
          have HO3 : Hid (wr.ownsRow w.heap.size 3 1 (.slice (some ⟨w.heap.size, 0, none⟩) t.length t.length) t.length (intCells (cnts t.length (kidsAll (t.take (i + 1)))))) := Lib.hid (by
            have h := HO2.out
            rw [List.take_of_length_le (Nat.le_refl _)] at h
            rw [HM.out, kidsAll_app, show kidsAll [x] = x.kids by simp [kidsAll]]
            exact h)
          have HSN : Hid (nodesOk 0 t = nodesOk (i + 1) (t.drop (i + 1))) := Lib.hid (by rw [HN.out, HD1.out, HKO.out, List.drop_of_length_le (Nat.le_refl _)]; simp [kidsOk])
          clear HD1 HKO HO2 HF
          go_wp2_with fail
          go_roundw
          case rel =>
            refine ⟨i + 1, by go_num, by omega, HSN, Lib.hid ?_, HO3, HB2⟩
            intro y hy
            rw [HM.out, kidsAll_app, show kidsAll [x] = x.kids by simp [kidsAll]] at hy
            rcases List.mem_append.1 hy with hy | hy
            · have := HK.out y hy; omega
            · have := HKK2.out y hy; omega
          case measure => simp [intOf]; omega
    · obtain rfl : i = t.length := by omega
      have hnok : Hid (nodesOk 0 t = true) := Lib.hid (by rw [HN.out, List.drop_of_length_le (Nat.le_refl _)]; rfl)
      have HO2 : Hid (wr.ownsRow w.heap.size 3 1 (.slice (some ⟨w.heap.size, 0, none⟩) t.length t.length) t.length (intCells (cnts t.length (kidsAll t)))) := Lib.hid (by have h := HO.out; rwa [List.take_of_length_le (Nat.le_refl _)] at h)
      have HS2 : Hid (R = (List.range' 0 (t.length - 1 - 0)).all fun (j : Nat) => (kidsAll t).count (j : Int) == 1) := Lib.hid (by rw [HS.out, hnok.out, List.range_eq_range']; simp)
      have HCL : Hid (∀ k : Int, (kidsAll t).count k ≤ 1000000) := Lib.hid (fun k => by
        have h3 := count_le (kidsAll t) k
        have h4 := kidsAll_le t (fun y hy => (HI.out y hy).2.1)
        omega)
      generalize kidsAll t = L at *
      clear hnok HO HN HK HS
      go_wp2_with fail
      go_loopw [8] (fun v wr2 => ∃ k : Nat, v = .int .i64 k ∧ k + 1 ≤ t.length ∧ wr2 = wr ∧ Hid (R = (List.range' k (t.length - 1 - k)).all fun (j : Nat) => L.count (j : Int) == 1)) (fun v _ => t.length - (intOf v).toNat)
      case atStart => exact ⟨0, rfl, by omega, rfl, HS2⟩
      case round =>
        obtain ⟨k, rfl, hk, rfl, HR⟩ := hrel
        by_cases hlt : k + 1 < t.length
        · have hget : (intCells (cnts t.length L))[k]? = some (.int .i64 (L.count (k : Int))) := by
            simp only [intCells, List.getElem?_map, cnts_get (show k < t.length by omega), Option.map_some]
          have e2 : wr.cell? ⟨w.heap.size, k, none⟩ = some (.int .i64 (L.count (k : Int))) := (HO2.out.cellAt k (by omega)).trans hget
          have HR2 : Hid (R = ((L.count (k : Int) == 1) && (List.range' (k + 1) (t.length - 1 - (k + 1))).all fun (j : Nat) => L.count (j : Int) == 1)) := Lib.hid (by rw [HR.out, all_split L k (t.length - 1) (by omega)])
          have hlt' : (k : Int) + 1 < (t.length : Int) := by omega
          generalize L.count (k : Int) = cn at *
          clear hget HR
          by_cases h1 : cn = 1
          · subst h1
            have HR3 : Hid (R = (List.range' (k + 1) (t.length - 1 - (k + 1))).all fun (j : Nat) => L.count (j : Int) == 1) := Lib.hid (by rw [HR2.out]; rfl)
            go_wp2_with fail
            go_roundw
            case rel => exact ⟨k + 1, by go_num, by omega, trivial, HR3⟩
            case measure => simp [intOf]; omega
          · have hq : ((cn : Int) != 1) = true := by simp; omega
            have HR3 : Hid (R = false) := Lib.hid (by rw [HR2.out, show (cn == 1) = false by simp; omega]; rfl)
            go_wp2_with fail
            go_ret
            rw [HR3.out]
            exact ⟨rfl, HB.out⟩
        · have HR3 : Hid (R = true) := Lib.hid (by rw [HR.out, show t.length - 1 - k = 0 by omega]; rfl)
          have hlt' : ¬ (k : Int) + 1 < (t.length : Int) := by omega
          go_wp2_with fail
          go_ret
          rw [HR3.out]
          exact ⟨rfl, HB.out⟩
end Go.Proofs.YtbcgdkhkljeomaaDoor
