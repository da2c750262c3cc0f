/-
  XNdF, turned: what this seat needs of it.
-/
import Derived.Test.YtebejlnegalokaaGreatDoorProg
import Derived.Test.YtebejlnegalokaaGreatDoorReg
import Derived.WalkKit
import Derived.WalkSpells
import Derived.WalkLawsBesides
import Derived.Lib.Hide
import Derived.Lib.MinMax
import Derived.Deep.QuietTactic
import Derived.BigQuiet
import Derived.OwnWalk
import Derived.Deep.AppendLies
import Derived.KernelRfl
import Derived.WalkKit
import Derived.Test.YtebejlnegalokaaGreatDoorBytes
import Derived.Laws.OwnMore
import Derived.Test.YtebejlnegalokaaGreatDoorMapI
import Derived.Deep.RegionWith
import Derived.Deep.CutBlock
import Derived.Deep.OwnRows
import Derived.Test.YtebejlnegalokaaGreatDoorPaLay
import Derived.Test.YtebejlnegalokaaGreatDoorNzM2
import Derived.LaidEql
import Derived.Stop.Asserts
import Derived.RowKitTokens
import Derived.Shelf.Strings.Builder1
import Derived.Shelf.Small.Strs
import Derived.Shelf.Strings.BuilderF
import Derived.Shelf.Strings.BuilderK
import Derived.Shelf.Strconv.Itoa0
import Derived.Shelf.Strconv.Itoa1
import Derived.Shelf.LaysM
import Derived.Shelf.Strconv.Itoa2
import Derived.Shelf.Strconv.Itoa3
import Derived.Shelf.Strings.Search1
import Derived.Lib.FrozenHead2
set_option linter.unusedSimpArgs false
set_option linter.unusedVariables false
namespace Go.Proofs.YtebejlnegalokaaGreatDoor.Nz
open Go.RowKit
theorem all_split (L : List Int) (k n : Nat) (hk : k < n) : ((List.range' k (n - k)).all fun (j : Nat) => L.count (j : Int) == 1) = ((L.count (k : Int) == 1) && (List.range' (k + 1) (n - (k + 1))).all fun (j : Nat) => L.count (j : Int) == 1) := by
  rw [show n - k = (n - (k + 1)) + 1 by omega, List.range'_succ]
  rfl
set_option maxRecDepth 100000 in
set_option maxHeartbeats 8000000 in
theorem refRight_any (t : List Nd) (A : Option Addr) (c : Nat) (w : World) (hh : HoldsN w A t) (hi : IntN t) :
    Calls Tryz.prog 28 #[.slice A t.length c] w fun e w' => e = .returned (.bool (rightN t)) ∧ Below w.heap.size w w' := by
  have HR : Hid (rightN t = (decide (1 ≤ t.length) && decide (t.length ≤ 400) && nodesOk 0 t && (List.range (t.length - 1)).all fun j => (kidsAll t).count (j : Int) == 1)) := Lib.hid rfl
  generalize rightN t = R at *
  have HH := Lib.hid hh
  have HI := Lib.hid hi
  clear hh hi
  have HF := Lib.hid refForm_any
  by_cases h1 : t.length < 1
  · have h1' : (t.length : Int) < 1 := by omega
    have HS : Hid (R = false) := Lib.hid (by rw [HR.out, decide_eq_false (show ¬ 1 ≤ t.length by omega)]; rfl)
    go_enter Tryz.func28, Tryz.ntmps28
    go_wp2
    go_ret
    rw [HS.out]
    exact ⟨rfl, Below.refl _ _⟩
  by_cases h2 : 400 < t.length
  · have h1' : ¬ (t.length : Int) < 1 := by omega
    have h2' : (400 : Int) < (t.length : Int) := by omega
    have HS : Hid (R = false) := Lib.hid (by rw [HR.out, decide_eq_false (show ¬ t.length ≤ 400 by omega)]; simp)
    go_enter Tryz.func28, Tryz.ntmps28
    go_wp2
    go_ret
    rw [HS.out]
    exact ⟨rfl, Below.refl _ _⟩
  have HS : Hid (R = (nodesOk 0 t && (List.range (t.length - 1)).all fun j => (kidsAll t).count (j : Int) == 1)) := Lib.hid (by rw [HR.out, decide_eq_true (show 1 ≤ t.length by omega), decide_eq_true (show t.length ≤ 400 by omega)]; rfl)
  clear HR
  have h1' : ¬ (t.length : Int) < 1 := by omega
  have h2' : ¬ (400 : Int) < (t.length : Int) := by omega
  have hmk := run_make_row' (P := Tryz.prog) 47 3 (.int .i64 0) 8 (by kernel_rfl) infoInt rfl .i64 .i64 t.length (by omega) (by omega)
  have hown0 := made_ints w t.length (by omega)
  have hb0 : Below w.heap.size w (w.alloc (.cells (madeCells #[.int .i64 0] t.length) 3)) := (Below.refl _ _).alloc (Nat.le_refl _) _
  go_enter Tryz.func28, Tryz.ntmps28
  go_wp2
  clear hmk
  generalize w.alloc (.cells (madeCells #[.int .i64 0] t.length) 3) = w1 at *
  go_loopw [4] (fun v wr => ∃ i : Nat, v = .int .i64 i ∧ i ≤ t.length ∧ Hid (nodesOk 0 t = nodesOk i (t.drop i)) ∧ Hid (∀ k ∈ kidsAll (t.take i), 0 ≤ k ∧ k + 1 < (i : Int)) ∧
      Hid (wr.ownsRow w.heap.size 3 1 (.slice (some ⟨w.heap.size, 0, none⟩) t.length t.length) t.length (intCells (cnts t.length (kidsAll (t.take i))))) ∧ Hid (Below w.heap.size w wr))
    (fun v _ => t.length - (intOf v).toNat)
  case atStart => exact ⟨0, rfl, Nat.zero_le _, Lib.hid rfl, Lib.hid (fun k hk => by simp [kidsAll] at hk), Lib.hid hown0, Lib.hid hb0⟩
  case round =>
    clear hown0 hb0
    obtain ⟨i, rfl, hi, HN, HK, HO, HB⟩ := hrel
    by_cases hlt : i < t.length
    · have g := List.getElem?_eq_getElem hlt
      have hmem := List.getElem_mem hlt
      generalize t[i] = x at *
      obtain ⟨b, off, rfl, c0, c1, B, c2, c3, hK, hc⟩ := HH.out i x g
      obtain ⟨z1, z2, z3, z4⟩ := HI.out x hmem
      have lb : b < w.heap.size := cell_lt c0
      have hb := HB.out
      have d0 := (hb.cell (p := ⟨b, _, none⟩) lb).trans c0
      have d1 := (hb.cell (p := ⟨b, _, none⟩) lb).trans c1
      have d2 := (hb.cell (p := ⟨b, _, none⟩) lb).trans c3
      have HKx := Lib.hid hK
      have HZ1 := Lib.hid z1
      have HG := Lib.hid g
      have HM := Lib.hid (take_one g)
      have HD : Hid (nodesOk i (t.drop i) = (kidsOk i (-1) x.kids && formOk x && nodesOk (i + 1) (t.drop (i + 1)))) := Lib.hid (by rw [drop_one g]; rfl)
      clear c0 c1 hK g hmem z4 z1
      have HFx := Lib.hid (fun W => HF.out x B c2 W (by omega))
      unfold Nd.value at HFx
      have hnn : (0 : Int) ≤ x.kids.length := by omega
      go_wp2_with fail
      refine (HFx.out _).mono ?_
      rintro e W0 ⟨rfl, hbf⟩
      clear HFx d0 d1 d2
      have HB0 : Hid (Below w.heap.size w W0) := Lib.hid (hb.trans (hbf.mono hb.size))
      have HO0 := Lib.hid (own_below HO.out hbf)
      clear HO HB hb hbf
      cases hfo : formOk x
      · have HSF : Hid (nodesOk 0 t = false) := Lib.hid (by rw [HN.out, HD.out, hfo]; simp)
        clear hfo
        go_wp2_with fail
        go_ret
        rw [HS.out, HSF.out]
        exact ⟨rfl, HB0.out⟩
      have HD1 : Hid (nodesOk i (t.drop i) = (kidsOk i (-1) x.kids && nodesOk (i + 1) (t.drop (i + 1)))) := Lib.hid (by rw [HD.out, hfo]; simp)
      clear hfo HD
      have HC3 := Lib.hid c3
      clear c3
      go_wp2_with fail
      go_loopw [5, 6] (fun l v wr => ∃ (q : Nat) (last : Int), l = .int .i64 last ∧ v = .int .i64 q ∧ q ≤ x.kids.length ∧ -1 ≤ last ∧ Hid (kidsOk i (-1) x.kids = kidsOk i last (x.kids.drop q)) ∧ Hid (∀ k ∈ x.kids.take q, 0 ≤ k ∧ k < (i : Int)) ∧
        Hid (wr.ownsRow w.heap.size 3 1 (.slice (some ⟨w.heap.size, 0, none⟩) t.length t.length) t.length (intCells (cnts t.length (kidsAll (t.take i) ++ x.kids.take q)))) ∧ Hid (Below w.heap.size w wr))
        (fun _ v _ => x.kids.length - (intOf v).toNat)
      case atStart => exact ⟨0, -1, rfl, rfl, Nat.zero_le _, by omega, Lib.hid rfl, Lib.hid (fun k hk => by simp at hk), Lib.hid (by rw [List.take_zero, List.append_nil]; exact HO0.out), HB0⟩
      case round =>
        clear HO0 HB0
        obtain ⟨q, last, rfl, rfl, hq, hl1, HKO, HKK, HO2, HB2⟩ := hrel
        have d2 := (HB2.out.cell (p := ⟨b, _, none⟩) lb).trans HC3.out
        by_cases hlt2 : q < x.kids.length
        · have g2 := List.getElem?_eq_getElem hlt2
          have HKS : Hid (kidsOk i last (x.kids.drop q) = (decide (last < x.kids[q]) && decide (x.kids[q] < i) && kidsOk i x.kids[q] (x.kids.drop (q + 1)))) := Lib.hid (by rw [drop_one g2]; rfl)
          have HM2 := Lib.hid (take_one g2)
          obtain ⟨b2, off2, rfl, e0⟩ := HKx.out q _ g2
          have hb2 := HB2.out
          have e1 := (hb2.cell (p := ⟨b2, _, none⟩) (cell_lt e0)).trans e0
          generalize x.kids[q] = k at *
          clear g2 e0 hb2
          by_cases hk1 : k ≤ last
          · have HSF : Hid (nodesOk 0 t = false) := Lib.hid (by rw [HN.out, HD1.out, HKO.out, HKS.out, decide_eq_false (show ¬ last < k by omega)]; rfl)
            go_wp2_with fail
            go_ret
            rw [HS.out, HSF.out]
            exact ⟨rfl, HB2.out⟩
          by_cases hk2 : (i : Int) ≤ k
          · have HSF : Hid (nodesOk 0 t = false) := Lib.hid (by rw [HN.out, HD1.out, HKO.out, HKS.out, decide_eq_false (show ¬ k < i by omega)]; simp)
            go_wp2_with fail
            go_ret
            rw [HS.out, HSF.out]
            exact ⟨rfl, HB2.out⟩
          have hk0 : 0 ≤ k := by omega
          have HKS2 : Hid (kidsOk i (-1) x.kids = kidsOk i k (x.kids.drop (q + 1))) := Lib.hid (by rw [HKO.out, HKS.out, decide_eq_true (show last < k by omega), decide_eq_true (show k < i by omega)]; simp)
          have hcnt : (kidsAll (t.take i) ++ x.kids.take q).count k ≤ 1000000 := by
            have h3 := count_le (kidsAll (t.take i) ++ x.kids.take q) k
            have h4 := kidsAll_le (t.take i) (fun y hy => (HI.out y (List.mem_of_mem_take hy)).2.1)
            rw [List.length_append] at h3
            simp only [List.length_take] at h3 h4
            omega
          have hkn : k.toNat < t.length := by omega
          have hget : (intCells (cnts t.length (kidsAll (t.take i) ++ x.kids.take q)))[k.toNat]? = some (.int .i64 ((kidsAll (t.take i) ++ x.kids.take q).count k)) := by
            simp only [intCells, List.getElem?_map, cnts_get hkn, Option.map_some]
            rw [show ((k.toNat : Nat) : Int) = k by omega]
          have e2 : wr.cell? ⟨w.heap.size, k.toNat, none⟩ = some (.int .i64 ((kidsAll (t.take i) ++ x.kids.take q).count k)) := (HO2.out.cellAt k.toNat (by omega)).trans hget
          have e3 : wr.frozen? ⟨w.heap.size, k.toNat, none⟩ = false := HO2.out.frozenAt k.toNat
          obtain ⟨ho3, hg3⟩ := HO2.out.stored k.toNat (.int .i64 ((((kidsAll (t.take i) ++ x.kids.take q).count k : Nat) : Int) + 1))
          rw [intCells_set, cnts_put hk0 (by omega)] at ho3
          have HB3 := Lib.hid (HB2.out.setCell (p := ⟨w.heap.size, k.toNat, none⟩) (Nat.le_refl _) (.int .i64 ((((kidsAll (t.take i) ++ x.kids.take q).count k : Nat) : Int) + 1)))
          have HO3 := Lib.hid ho3
          generalize (kidsAll (t.take i) ++ x.kids.take q).count k = cn at *
          have hw3 : IntKind.i64.wrap ((cn : Int) + 1) = (cn : Int) + 1 := IntWalk.i64_in _ (by omega)
          have hkt : k < (t.length : Int) := by omega
          clear ho3 hg3 hget
          go_wp2_with fail
          go_roundw
          case rel =>
            refine ⟨q + 1, k, rfl, by go_num, by omega, by omega, HKS2, Lib.hid ?_, Lib.hid ?_, HB3⟩
            · rw [HM2.out]
              intro y hy
              rcases List.mem_append.1 hy with hy | hy
              · exact HKK.out y hy
              · rw [List.mem_singleton.1 hy]; omega
            · rw [HM2.out, ← List.append_assoc]; exact HO3.out
          case measure => simp [intOf]; omega
        · obtain rfl : q = x.kids.length := by omega
          have HKK2 : Hid (∀ k ∈ x.kids, 0 ≤ k ∧ k < (i : Int)) := Lib.hid (by have h := HKK.out; rwa [List.take_of_length_le (Nat.le_refl _)] at h)
          have HO3 : Hid (wr.ownsRow w.heap.size 3 1 (.slice (some ⟨w.heap.size, 0, none⟩) t.length t.length) t.length (intCells (cnts t.length (kidsAll (t.take (i + 1)))))) := Lib.hid (by
            have h := HO2.out
            rw [List.take_of_length_le (Nat.le_refl _)] at h
            rw [HM.out, kidsAll_app, show kidsAll [x] = x.kids by simp [kidsAll]]
            exact h)
          have HSN : Hid (nodesOk 0 t = nodesOk (i + 1) (t.drop (i + 1))) := Lib.hid (by rw [HN.out, HD1.out, HKO.out, List.drop_of_length_le (Nat.le_refl _)]; simp [kidsOk])
          clear HD1 HKO HO2 HF
          go_wp2_with fail
          go_roundw
          case rel =>
            refine ⟨i + 1, by go_num, by omega, HSN, Lib.hid ?_, HO3, HB2⟩
            intro y hy
            rw [HM.out, kidsAll_app, show kidsAll [x] = x.kids by simp [kidsAll]] at hy
            rcases List.mem_append.1 hy with hy | hy
            · have := HK.out y hy; omega
            · have := HKK2.out y hy; omega
          case measure => simp [intOf]; omega
    · obtain rfl : i = t.length := by omega
      have hnok : Hid (nodesOk 0 t = true) := Lib.hid (by rw [HN.out, List.drop_of_length_le (Nat.le_refl _)]; rfl)
      have HO2 : Hid (wr.ownsRow w.heap.size 3 1 (.slice (some ⟨w.heap.size, 0, none⟩) t.length t.length) t.length (intCells (cnts t.length (kidsAll t)))) := Lib.hid (by have h := HO.out; rwa [List.take_of_length_le (Nat.le_refl _)] at h)
      have HS2 : Hid (R = (List.range' 0 (t.length - 1 - 0)).all fun (j : Nat) => (kidsAll t).count (j : Int) == 1) := Lib.hid (by rw [HS.out, hnok.out, List.range_eq_range']; simp)
      have HCL : Hid (∀ k : Int, (kidsAll t).count k ≤ 1000000) := Lib.hid (fun k => by
        have h3 := count_le (kidsAll t) k
        have h4 := kidsAll_le t (fun y hy => (HI.out y hy).2.1)
        omega)
      generalize kidsAll t = L at *
      clear hnok HO HN HK HS
      go_wp2_with fail
      go_loopw [8] (fun v wr2 => ∃ k : Nat, v = .int .i64 k ∧ k + 1 ≤ t.length ∧ wr2 = wr ∧ Hid (R = (List.range' k (t.length - 1 - k)).all fun (j : Nat) => L.count (j : Int) == 1)) (fun v _ => t.length - (intOf v).toNat)
      case atStart => exact ⟨0, rfl, by omega, rfl, HS2⟩
      case round =>
        obtain ⟨k, rfl, hk, rfl, HR⟩ := hrel
        by_cases hlt : k + 1 < t.length
        · have hget : (intCells (cnts t.length L))[k]? = some (.int .i64 (L.count (k : Int))) := by
            simp only [intCells, List.getElem?_map, cnts_get (show k < t.length by omega), Option.map_some]
          have e2 : wr.cell? ⟨w.heap.size, k, none⟩ = some (.int .i64 (L.count (k : Int))) := (HO2.out.cellAt k (by omega)).trans hget
          have HR2 : Hid (R = ((L.count (k : Int) == 1) && (List.range' (k + 1) (t.length - 1 - (k + 1))).all fun (j : Nat) => L.count (j : Int) == 1)) := Lib.hid (by rw [HR.out, all_split L k (t.length - 1) (by omega)])
          have hlt' : (k : Int) + 1 < (t.length : Int) := by omega
          generalize L.count (k : Int) = cn at *
          clear hget HR
          by_cases h1 : cn = 1
          · subst h1
            have HR3 : Hid (R = (List.range' (k + 1) (t.length - 1 - (k + 1))).all fun (j : Nat) => L.count (j : Int) == 1) := Lib.hid (by rw [HR2.out]; rfl)
            go_wp2_with fail
            go_roundw
            case rel => exact ⟨k + 1, by go_num, by omega, trivial, HR3⟩
            case measure => simp [intOf]; omega
          · have hq : ((cn : Int) != 1) = true := by simp; omega
            have HR3 : Hid (R = false) := Lib.hid (by rw [HR2.out, show (cn == 1) = false by simp; omega]; rfl)
            go_wp2_with fail
            go_ret
            rw [HR3.out]
            exact ⟨rfl, HB.out⟩
        · have HR3 : Hid (R = true) := Lib.hid (by rw [HR.out, show t.length - 1 - k = 0 by omega]; rfl)
          have hlt' : ¬ (k : Int) + 1 < (t.length : Int) := by omega
          go_wp2_with fail
          go_ret
          rw [HR3.out]
          exact ⟨rfl, HB.out⟩
end Go.Proofs.YtebejlnegalokaaGreatDoor.Nz
/-
  XNdG, turned: what this seat needs of it.
-/
namespace Go.Proofs.YtebejlnegalokaaGreatDoor.Nz
open Go.RowKit
set_option maxRecDepth 100000 in
set_option maxHeartbeats 2000000 in
theorem equal_any (A B : Option Addr) (c d : Nat) (l m : List Int) (w : World) (hl : l.length ≤ 1000) (hm : m.length ≤ 1000) (hA : HoldsI w A l) (hB : HoldsI w B m) :
    Calls Tryz.prog 40 #[.slice A l.length c, .slice B m.length d] w fun r w' => r = .returned (.bool (decide (l = m))) ∧ ∃ n, w' = w.drewN n := by
  by_cases hlen : l.length = m.length
  · have Hall : Hid (l.take l.length = m.take l.length → l = m) := Lib.hid (by
      intro h
      rw [List.take_of_length_le (Nat.le_refl _), List.take_of_length_le (by omega)] at h
      exact h)
    have hq : (l.length : Int) = (m.length : Int) := by omega
    go_enter Tryz.func40, Tryz.ntmps40
    go_wp2
    go_loopw [13] (fun i wr => ∃ k : Nat, k ≤ l.length ∧ i = .int .i64 k ∧ l.take k = m.take k ∧ ∃ n, wr = w.drewN n) (fun i _ => l.length - (intOf i).toNat)
    case atStart => exact ⟨0, by omega, rfl, by simp, 0, rfl⟩
    case round =>
      obtain ⟨k, hk, rfl, hr, n, rfl⟩ := hrel
      by_cases hlt : k < l.length
      · have hlt2 : k < m.length := by omega
        obtain ⟨b1, o1, rfl, c1⟩ := hA k l[k] (List.getElem?_eq_getElem hlt)
        obtain ⟨b2, o2, rfl, c2⟩ := hB k m[k] (List.getElem?_eq_getElem hlt2)
        have Hs : Hid (l[k] = m[k] → l.take (k + 1) = m.take (k + 1)) := Lib.hid (fun h => by rw [List.take_succ_eq_append_getElem hlt, List.take_succ_eq_append_getElem hlt2, hr, h])
        have Hn : Hid (l[k] ≠ m[k] → l ≠ m) := Lib.hid (fun h e => h (by subst e; rfl))
        clear hr
        generalize l[k] = x at *
        generalize m[k] = y at *
        have lt2 : (k : Int) < (m.length : Int) := by omega
        by_cases he : x = y
        · have Hz := Lib.hid (Hs.out he)
          subst he
          clear Hs Hn
          go_wp2
          go_quiet (fail)
          go_wp2
          go_roundw
          case rel => exact ⟨k + 1, by omega, by go_num, Hz.out, _, rfl⟩
          case measure => simp [intOf]; omega
        · have Hz := Lib.hid (Hn.out he)
          have q1 : (x == y) = false := by simpa using he
          have q2 : (x != y) = true := by rw [bne, q1]; rfl
          clear Hs Hn he
          go_wp2
          go_quiet (fail)
          go_wp2
          go_ret
          exact ⟨by simp [Hz.out], n + nq, by simp [World.drewN, Nat.add_assoc]⟩
      · obtain rfl : k = l.length := by omega
        have Hz := Lib.hid (Hall.out hr)
        clear hr
        go_wp2
        go_ret
        exact ⟨by simp [Hz.out], _, rfl⟩
  · have hq : ¬ (l.length : Int) = (m.length : Int) := by omega
    have hne : l ≠ m := fun e => hlen (by rw [e])
    have Hne := Lib.hid hne
    have q1 : ((l.length : Int) == (m.length : Int)) = false := by simpa using hq
    have q2 : ((l.length : Int) != (m.length : Int)) = true := by rw [bne, q1]; rfl
    clear hne hlen
    go_enter Tryz.func40, Tryz.ntmps40
    go_wp2
    go_ret
    exact ⟨by simp [Hne.out], 0, rfl⟩
theorem nd_ext {x y : Nd} : x = y ↔ x.kind = y.kind ∧ x.text = y.text ∧ x.kids = y.kids := by
  cases x; cases y; simp
theorem nd_dec (x y : Nd) : decide (x = y) = (decide (x.kind = y.kind) && (decide (x.text = y.text) && decide (x.kids = y.kids))) := by
  rw [Bool.eq_iff_iff]
  simp [nd_ext]
set_option maxRecDepth 100000 in
set_option maxHeartbeats 2000000 in
theorem sameOne_any (x y : Nd) (B D : Option Addr) (c d : Nat) (w : World) (hl : x.kids.length ≤ 1000) (hm : y.kids.length ≤ 1000) (hB : HoldsI w B x.kids) (hD : HoldsI w D y.kids) :
    Calls Tryz.prog 39 #[x.value B c, y.value D d] w fun r w' => r = .returned (.bool (decide (x = y))) ∧ Below w.heap.size w w' := by
  have HQ := Lib.hid (nd_dec x y)
  generalize decide (x = y) = Q at *
  unfold Nd.value
  have hb1 : Below w.heap.size w ((w.alloc (.cells #[.int .i64 x.kind, .string x.text, .slice B x.kids.length c] 49)).alloc (.cells #[.int .i64 y.kind, .string y.text, .slice D y.kids.length d] 49)) := ((Below.refl _ _).alloc (Nat.le_refl _) _).alloc (by simp) _
  have HE := Lib.hid (equal_any B D c d x.kids y.kids _ hl hm (hB.below hb1) (hD.below hb1))
  have HB1 := Lib.hid hb1
  clear hB hD hb1
  generalize x.kids.length = n1 at *
  generalize y.kids.length = n2 at *
  generalize x.kids = k1 at *
  generalize y.kids = k2 at *
  generalize x.kind = a1 at *
  generalize y.kind = a2 at *
  generalize x.text = t1 at *
  generalize y.text = t2 at *
  go_enter Tryz.func39, Tryz.ntmps39
  by_cases h1 : a1 = a2
  · by_cases h2 : t1 = t2
    · have HQ2 : Hid (Q = decide (k1 = k2)) := Lib.hid (by rw [HQ.out, decide_eq_true h1, decide_eq_true h2]; rfl)
      subst h1
      subst h2
      go_wp2_with fail
      refine HE.out.mono ?_
      rintro e w4 ⟨rfl, n, rfl⟩
      go_wp2
      go_ret
      rw [HQ2.out]
      exact ⟨rfl, below_drewN HB1.out n⟩
    · have HQ2 : Hid (Q = false) := Lib.hid (by rw [HQ.out, decide_eq_false h2]; simp)
      have q2 := bytes_beq_no h2
      subst h1
      go_wp2
      go_ret
      rw [HQ2.out]
      exact ⟨rfl, HB1.out⟩
  · have HQ2 : Hid (Q = false) := Lib.hid (by rw [HQ.out, decide_eq_false h1]; simp)
    have q1 : (a1 == a2) = false := by simpa using h1
    go_wp2
    go_ret
    rw [HQ2.out]
    exact ⟨rfl, HB1.out⟩
end Go.Proofs.YtebejlnegalokaaGreatDoor.Nz
/-
  XNdI, turned: what this seat needs of it.
-/
namespace Go.Proofs.YtebejlnegalokaaGreatDoor.Nz
open Go.RowKit
set_option maxRecDepth 100000 in
set_option maxHeartbeats 4000000 in
theorem equalFunc_any (t u : List Nd) (A C : Option Addr) (c d : Nat) (w : World) (hl : t.length ≤ 1000) (hm : u.length ≤ 1000) (hA : HoldsN w A t) (hC : HoldsN w C u) (it : IntN t) (iu : IntN u) :
    Calls Tryz.prog 38 #[.slice A t.length c, .slice C u.length d, .func (.func 39) #[] #[]] w fun r w' => r = .returned (.bool (decide (t = u))) ∧ Below w.heap.size w w' := by
  have HA := Lib.hid hA
  have HC := Lib.hid hC
  have HT := Lib.hid it
  have HU := Lib.hid iu
  have HSO := Lib.hid sameOne_any
  clear hA hC it iu
  by_cases hlen : t.length = u.length
  · have Hall : Hid (t.take t.length = u.take t.length → t = u) := Lib.hid (by
      intro h
      rw [List.take_of_length_le (Nat.le_refl _), List.take_of_length_le (by omega)] at h
      exact h)
    have q1 : ((t.length : Int) != (u.length : Int)) = false := by simp; omega
    have HLN := Lib.hid hlen
    clear hlen
    go_enter Tryz.func38, Tryz.ntmps38
    go_wp2
    go_loopw [17] (fun i wr => ∃ k : Nat, k ≤ t.length ∧ i = .int .i64 k ∧ Hid (t.take k = u.take k) ∧ Hid (Below w.heap.size w wr)) (fun i _ => t.length - (intOf i).toNat)
    case atStart => exact ⟨0, by omega, rfl, Lib.hid rfl, Lib.hid (Below.refl _ _)⟩
    case round =>
      obtain ⟨k, hk, rfl, HR, HB⟩ := hrel
      by_cases hlt : k < t.length
      · have hlt2 : k < u.length := by rw [← HLN.out]; exact hlt
        have g1 := List.getElem?_eq_getElem hlt
        have g2 := List.getElem?_eq_getElem hlt2
        have m1 := List.getElem_mem hlt
        have m2 := List.getElem_mem hlt2
        have Hs : Hid (t[k] = u[k] → t.take (k + 1) = u.take (k + 1)) := Lib.hid (fun h => by rw [List.take_succ_eq_append_getElem hlt, List.take_succ_eq_append_getElem hlt2, HR.out, h])
        have Hn : Hid (t[k] ≠ u[k] → t ≠ u) := Lib.hid (fun h e => h (by subst e; rfl))
        clear HR
        generalize t[k] = x at *
        generalize u[k] = y at *
        obtain ⟨b, off, rfl, c0, c1, B, c2, c3, hK, hc⟩ := HA.out k x g1
        obtain ⟨b', off', rfl, e0, e1, D, e2, e3, hK', hc'⟩ := HC.out k y g2
        have hb := HB.out
        have lb : b < w.heap.size := cell_lt c0
        have lb' : b' < w.heap.size := cell_lt e0
        have d0 := (hb.cell (p := ⟨b, _, none⟩) lb).trans c0
        have d1 := (hb.cell (p := ⟨b, _, none⟩) lb).trans c1
        have d2 := (hb.cell (p := ⟨b, _, none⟩) lb).trans c3
        have f0 := (hb.cell (p := ⟨b', _, none⟩) lb').trans e0
        have f1 := (hb.cell (p := ⟨b', _, none⟩) lb').trans e1
        have f2 := (hb.cell (p := ⟨b', _, none⟩) lb').trans e3
        have hsz := hb.size
        have ltr : b < wr.heap.size := by omega
        have ltr' : b' < wr.heap.size := by omega
        have hb9 : Below w.heap.size w ((wr.alloc (.cells #[.int .i64 x.kind, .string x.text, .slice B x.kids.length c2] 49)).alloc (.cells #[.int .i64 y.kind, .string y.text, .slice D y.kids.length e2] 49)) := (hb.alloc hsz _).alloc (by simp; omega) _
        have HX := Lib.hid (HSO.out x y B D c2 e2 _ (HT.out x m1).2.1 (HU.out y m2).2.1 (hK.below hb9) (hK'.below hb9))
        have HB9 := Lib.hid hb9
        unfold Nd.value at HX
        clear c0 c1 c3 e0 e1 e3 hK hK' g1 g2 m1 m2 hb9 hb HB
        have lt2 : (k : Int) < (u.length : Int) := by omega
        go_wp2_with fail
        refine HX.out.mono ?_
        rintro e w4 ⟨rfl, hb4⟩
        clear HX
        by_cases he : x = y
        · have Hz := Lib.hid (Hs.out he)
          have q3 : decide (x = y) = true := decide_eq_true he
          clear Hs Hn he
          rw [q3]
          go_wp2
          go_roundw
          case rel => exact ⟨k + 1, by omega, by go_num, Hz, Lib.hid (HB9.out.trans (hb4.mono HB9.out.size))⟩
          case measure => simp [intOf]; omega
        · have Hz : Hid (decide (t = u) = false) := Lib.hid (decide_eq_false (Hn.out he))
          have q3 : decide (x = y) = false := decide_eq_false he
          clear Hs Hn he
          rw [q3]
          go_wp2
          go_ret
          rw [Hz.out]
          exact ⟨rfl, HB9.out.trans (hb4.mono HB9.out.size)⟩
      · obtain rfl : k = t.length := by omega
        have Hz : Hid (decide (t = u) = true) := Lib.hid (decide_eq_true (Hall.out HR.out))
        clear HR
        go_wp2
        go_ret
        rw [Hz.out]
        exact ⟨rfl, HB.out⟩
  · have Hz : Hid (decide (t = u) = false) := Lib.hid (decide_eq_false (fun e => hlen (by rw [e])))
    have q1 : ((t.length : Int) != (u.length : Int)) = true := by simp; omega
    go_enter Tryz.func38, Tryz.ntmps38
    go_wp2
    go_ret
    rw [Hz.out]
    exact ⟨rfl, Below.refl _ _⟩
set_option maxRecDepth 100000 in
set_option maxHeartbeats 4000000 in
theorem same_any (t u : List Nd) (A C : Option Addr) (c d : Nat) (w : World) (hl : t.length ≤ 1000) (hm : u.length ≤ 1000) (hA : HoldsN w A t) (hC : HoldsN w C u) (it : IntN t) (iu : IntN u) :
    Calls Tryz.prog 19 #[.slice A t.length c, .slice C u.length d] w fun r w' => r = .returned (.bool (decide (t = u))) ∧ Below w.heap.size w w' := by
  have H := Lib.hid (equalFunc_any t u A C c d w hl hm hA hC it iu)
  clear hA hC it iu
  go_enter Tryz.func19, Tryz.ntmps19
  go_wp2_with fail
  refine H.out.mono ?_
  rintro e w4 ⟨rfl, hb4⟩
  go_wp2
  go_ret
  exact ⟨rfl, hb4⟩
end Go.Proofs.YtebejlnegalokaaGreatDoor.Nz
/-
  XNdJ, turned: what this seat needs of it.
-/
namespace Go.Proofs.YtebejlnegalokaaGreatDoor.Nz
open Go.RowKit Go.Extern.Stop Go.Stop Go.Extern
theorem isTypeOf (v : Value) (w : World) : (Extern.ReflectliteType.typeOf #[.iface 216 v]).run Tryz.prog w = .ok (.iface 163 (.agg #[.pointer (some ⟨8, 216, none⟩)])) w := by kernel_rfl
theorem isComparable (w : World) : (callFunc 167 #[.agg #[.pointer (some ⟨8, 216, none⟩)]]).run Tryz.prog w = .ok (.value (.bool true)) w := by kernel_rfl
theorem isMethodComparable (v : Value) (w : World) : (Go.method 347 163 v "Comparable").run Tryz.prog w = .ok (167, v) w := by kernel_rfl
theorem isComp : (Tryz.prog.info? 216).map (·.comparable) = some true := by kernel_rfl
theorem isSize : (Tryz.prog.info? 235).map (·.size) = some 1 := by kernel_rfl
set_option maxRecDepth 100000 in
set_option maxHeartbeats 1000000 in
/-- errors.Is(x, x), x a pointer to an errors.errorString. -/
theorem is_same (a : Addr) (w : World) :
    Calls Tryz.prog 59 #[.iface 216 (.pointer (some a)), .iface 216 (.pointer (some a))] w fun e w' => e = .returned (.bool true) ∧ w = w' := by
  obtain ⟨i, hi, hcmp⟩ := Option.map_eq_some_iff.1 isComp
  obtain ⟨j, hj, hjs⟩ := Option.map_eq_some_iff.1 isSize
  have h8 := @run_callFunc_extern Tryz.prog 83 _ Extern.ReflectliteType.typeOf Tryz.func83 (by kernel_rfl) (by kernel_rfl) (by kernel_rfl) (by kernel_rfl)
  have tT := isTypeOf
  have cT := isComparable
  have mR := isMethodComparable
  have heq := run_eql_iface_ptr_same (P := Tryz.prog) w a Tryz.underlying67 Tryz.underlying216 hi hcmp hj
  go_enter Tryz.func59, Tryz.ntmps59
  go_wp2
  refine wp_loop_rounds 1 ?_
  rw [rounds_succ]
  go_wp2
  go_ret
  exact ⟨rfl, rfl⟩
set_option maxHeartbeats 1000000 in
theorem told_err (a : Addr) (w : World) (hg : w.cell? ⟨0, 0, none⟩ = some (.iface 216 (.pointer (some a)))) :
    Calls Tryz.prog 35 #[.iface 216 (.pointer (some a))] w fun e w' => e = .returned (.int .i64 70) ∧ w = w' := by
  go_enter Tryz.func35, Tryz.ntmps35
  go_wp2_with (go_at_call 59; refine (is_same _ _).mono ?_; rintro e w' ⟨rfl, rfl⟩)
  go_ret
  exact ⟨rfl, rfl⟩
end Go.Proofs.YtebejlnegalokaaGreatDoor.Nz
/-
  XNdBu, turned: what this seat needs of it.
-/
namespace Go.Proofs.YtebejlnegalokaaGreatDoor.Nz
open Go.RowKit Go.Shelf
abbrev tB : TypeId := 138
abbrev tU : TypeId := 5
theorem sizeBu : (Tryz.prog.info? 138).map (·.size) = some 2 := Lay_Builder_Extra_169.sizeBuilder
theorem infoBy : (Tryz.prog.info? 5).map (fun i => (i.zero, i.size, i.bytes)) = some (some (.int .u8 0), 1, 1) := by kernel_rfl
set_option maxRecDepth 100000 in
set_option maxHeartbeats 1000000 in
theorem copyCheck_fresh (b : Nat) (w : World) (h0 : w.cell? ⟨b, 0, none⟩ = some (.pointer none)) (hsh : w.shape? b = some (tB, 2)) (hfz : w.frozen? ⟨b, 0, none⟩ = false) :
    Calls Tryz.prog 120 #[.pointer (some ⟨b, 0, none⟩)] w fun e w' => e = .returned (.tuple #[]) ∧ w' = w.setCell ⟨b, 0, none⟩ (.pointer (some ⟨b, 0, none⟩)) := by
  obtain ⟨j, hj, hjs⟩ := Option.map_eq_some_iff.1 sizeBu
  have h1 := Lib.run_to_unsafe (P := Tryz.prog) w ⟨b, 0, none⟩ Tryz.underlying135 Tryz.underlying145 hj (by rw [hjs]; decide) hsh (Nat.zero_lt_succ 1)
  have h2 := Lib.run_from_unsafe (P := Tryz.prog) w ⟨b, 0, none⟩ Tryz.underlying145 Tryz.underlying135 hj hsh Lay_Builder_Extra_169.liesBuilder
  go_enter Tryz.func120, Tryz.ntmps120
  go_wp2
  rw [run_callFunc_extern Tryz.func133 (by kernel_rfl) (by kernel_rfl) (by kernel_rfl) (e := Extern.AbiNoEscape.same) (by kernel_rfl)]
  rw [Lib.run_noEscape]
  simp only [Result.andThen]
  rw [Oper.upon_value]
  go_wp2
  go_end0
  exact ⟨rfl, rfl⟩
set_option maxRecDepth 100000 in
set_option maxHeartbeats 1000000 in
theorem copyCheck_used (b : Nat) (w : World) (h0 : w.cell? ⟨b, 0, none⟩ = some (.pointer (some ⟨b, 0, none⟩))) :
    Calls Tryz.prog 120 #[.pointer (some ⟨b, 0, none⟩)] w fun e w' => e = .returned (.tuple #[]) ∧ w' = w := by
  obtain ⟨j, hj, _⟩ := Option.map_eq_some_iff.1 sizeBu
  go_enter Tryz.func120, Tryz.ntmps120
  go_wp2
  rw [Lib.run_neq_ptr_same w _ Tryz.underlying135 hj]
  go_wp2
  go_end0
  exact ⟨rfl, rfl⟩
/-- A row of bytes that a conversion has made: marked behind its end. -/
def Marked (w : World) (k : Nat) (cs : Array Value) : Prop := w.heap[k]? = some (.cells cs tU (cs.size, cs.size + 1))
theorem marked_free {w : World} {k : Nat} {cs : Array Value} {B : Nat} {v : Value} {n : Nat} {xs : List Value} (hk : Marked w k cs) (h : w.ownsRowF B tU 1 v n xs) : v.ownBlock ≠ some k := by
  intro hv
  rcases h.2 with ⟨rfl, _⟩ | ⟨g, cap, cur, fz, rfl, _, hg, hfz, hnc, hcm, hcs, _⟩
  · simp [Value.ownBlock] at hv
  · simp [Value.ownBlock] at hv
    subst hv
    unfold Marked at hk
    rw [hk] at hg
    cases hg
    simp at hfz
    omega
theorem copyCheck_any (B b : Nat) (bs : List Value) (w : World) (h : Lib.IsBuilderF tB tU B b bs w) :
    Calls Tryz.prog 120 #[.pointer (some ⟨b, 0, none⟩)] w fun e w' => e = .returned (.tuple #[]) ∧ Lib.BuilderAtF tB tU B b (.pointer (some ⟨b, 0, none⟩)) bs w' ∧ Below B w w' ∧ ∀ k cs, Marked w k cs → Marked w' k cs := by
  have hne : ∀ k cs, Marked w k cs → k ≠ b := fun k cs hk e => by
    have hb : ∃ cs' : Array Value, w.heap[b]? = some (.cells cs' tB (0, 0)) := by
      rcases h with ⟨_, v, h, _⟩ | ⟨_, v, h, _⟩ <;> exact ⟨_, h⟩
    obtain ⟨cs', h1⟩ := hb
    subst e
    unfold Marked at hk
    rw [hk] at h1
    simp only [Option.some.injEq, Obj.cells.injEq] at h1
    exact absurd h1.2.1 (by decide)
  rcases h with h | h
  · refine (copyCheck_fresh b w h.cell0 h.shape h.frozen0).mono ?_
    rintro e w' ⟨rfl, rfl⟩
    exact ⟨rfl, h.used _, (Below.refl B w).setCell (p := ⟨b, 0, none⟩) h.1 _, fun k cs hk => (Below.heap_setCell w ⟨b, 0, none⟩ _ k (hne k cs hk)).trans hk⟩
  · refine (copyCheck_used b w h.cell0).mono ?_
    rintro e w' ⟨rfl, rfl⟩
    exact ⟨rfl, h, Below.refl B _, fun k cs hk => hk⟩
set_option maxHeartbeats 2000000 in
set_option maxRecDepth 100000 in
theorem writeByte_any (B b : Nat) (bs : List Value) (c : Int) (w : World) (h : Lib.IsBuilderF tB tU B b bs w) (hlen : bs.length + 1 ≤ 140737488355328) (hBw : B ≤ w.heap.size) :
    Calls Tryz.prog 102 #[.pointer (some ⟨b, 0, none⟩), .int .u8 c] w fun e w' => e = .returned .nilIface ∧ Lib.BuilderAtF tB tU B b (.pointer (some ⟨b, 0, none⟩)) (bs ++ [.int .u8 c]) w' ∧ Below B w w' ∧ ∀ k cs, Marked w k cs → Marked w' k cs := by
  obtain ⟨i0, hi, hz0, hz1, hz2⟩ := info_parts infoBy
  go_enter Tryz.func102, Tryz.ntmps102
  go_wp2_with fail
  refine (copyCheck_any B b bs _ h).mono ?_
  rintro e w1 ⟨rfl, h1, hb1, hm1⟩
  obtain ⟨hB, v, hbk, hown, hne⟩ := h1
  have c0 : w1.cell? ⟨b, 0, none⟩ = some (.pointer (some ⟨b, 0, none⟩)) := by rw [Lib.cell_of_heap hbk]; rfl
  have c1 : w1.cell? ⟨b, 1, none⟩ = some v := by rw [Lib.cell_of_heap hbk]; rfl
  go_wp2_with (at_builtin; refine wpList_append_ownF _ rfl _ _ 136 rfl B tU i0 (.int .u8 0) 1 1 Tryz.underlying136 hi hz0 hz1 hz2 rfl (by decide) _ _ _ rfl (hown.alloc _) ⟨w1.heap.size, 0, none⟩ 1 1 [.int .u8 c] rfl rfl ?c1 ?c2 ?c3 ?c4 ?c5 ?_)
  case c1 =>
    intro j u hj
    match j, hj with
    | 0, hj => simp at hj; subst hj; simp [Addr.add]
  case c2 => intro u hu; simp at hu; subst hu; rfl
  case c3 => unfold maxLen; omega
  case c4 => omega
  case c5 => have := hb1.size; simp; omega
  intro v' w2 hown' hgrow _
  have hlt : b < w1.heap.size := by
    rcases Nat.lt_or_ge b w1.heap.size with h' | h'
    · exact h'
    · simp [Array.getElem?_eq_none h'] at hbk
  have hb2 : w2.heap[b]? = some (.cells #[.pointer (some ⟨b, 0, none⟩), v] tB (0, 0)) := by
    rw [hgrow.block b (by simp; omega) (fun e => hne e.symm), Lib.alloc_old w1 _ b hlt]
    exact hbk
  have hnb : ∀ k cs, Marked w1 k cs → k ≠ b := fun k cs hk e => by
    subst e
    unfold Marked at hk
    rw [hk] at hbk
    simp only [Option.some.injEq, Obj.cells.injEq] at hbk
    exact absurd hbk.2.1 (by decide)
  have HM : Hid (∀ k cs, Marked w k cs → ∀ u, Marked (w2.setCell ⟨b, 1, none⟩ u) k cs) := Lib.hid (fun k cs hk u => (Below.heap_setCell w2 ⟨b, 1, none⟩ u k (hnb k cs (hm1 k cs hk))).trans ((hgrow.block k (by simp; have := (Array.getElem?_eq_some_iff.1 (hm1 k cs hk)).1; omega) (fun e => marked_free (hm1 k cs hk) hown e.symm)).trans ((Lib.alloc_old w1 _ k (Array.getElem?_eq_some_iff.1 (hm1 k cs hk)).1).trans (hm1 k cs hk))))
  clear hm1 hnb
  have d0 : w2.cell? ⟨b, 0, none⟩ = some (.pointer (some ⟨b, 0, none⟩)) := by rw [Lib.cell_of_heap hb2]; rfl
  have d1 : w2.cell? ⟨b, 1, none⟩ = some v := by rw [Lib.cell_of_heap hb2]; rfl
  have f1 : w2.frozen? ⟨b, 1, none⟩ = false := Lib.frozen_of_heap hb2 1
  obtain ⟨g, cap, rfl⟩ : ∃ g cap, v' = .slice (some ⟨g, 0, none⟩) (bs.length + 1) cap := by
    rcases hown'.2 with ⟨_, h0⟩ | ⟨g, cap, cur, fz, hv, _⟩
    · omega
    · exact ⟨g, cap, hv⟩
  go_wp2
  go_ret
  refine ⟨rfl, ?_, ?_, fun k cs hk => HM.out k cs hk _⟩
  · exact Lib.BuilderAtF.put (T := tB) (e := tU) hB hb2 (bs' := bs ++ [.int .u8 c]) (by simpa using hown') (by decide)
  · exact ((hb1.alloc (by have := hb1.size; omega) _).grown hgrow (by have := hb1.size; simp; omega) (fun k hk => (hown.lt k hk).1)).setCell (p := ⟨b, 1, none⟩) hB _
set_option maxHeartbeats 2000000 in
set_option maxRecDepth 100000 in
theorem writeString_any (B b : Nat) (bs : List Value) (s : ByteArray) (w : World) (h : Lib.IsBuilderF tB tU B b bs w) (hlen : bs.length + s.size ≤ 140737488355328) (hBw : B ≤ w.heap.size) :
    Calls Tryz.prog 101 #[.pointer (some ⟨b, 0, none⟩), .string s] w fun e w' => e = .returned (.tuple #[.int .i64 s.size, .nilIface]) ∧ Lib.BuilderAtF tB tU B b (.pointer (some ⟨b, 0, none⟩)) (bs ++ Lib.strCells s) w' ∧ Below B w w' ∧ ∀ k cs, Marked w k cs → Marked w' k cs := by
  obtain ⟨i0, hi, hz0, hz1, hz2⟩ := info_parts infoBy
  go_enter Tryz.func101, Tryz.ntmps101
  go_wp2_with fail
  refine (copyCheck_any B b bs _ h).mono ?_
  rintro e w1 ⟨rfl, h1, hb1, hm1⟩
  obtain ⟨hB, v, hbk, hown, hne⟩ := h1
  have c0 : w1.cell? ⟨b, 0, none⟩ = some (.pointer (some ⟨b, 0, none⟩)) := by rw [Lib.cell_of_heap hbk]; rfl
  have c1 : w1.cell? ⟨b, 1, none⟩ = some v := by rw [Lib.cell_of_heap hbk]; rfl
  go_wp2_with (at_builtin; refine Lib.wpList_append_own_stringF _ rfl _ _ 136 9 rfl B tU i0 Tryz.underlying136 Tryz.underlying9 hi hz0 hz1 hz2 _ _ _ rfl hown s rfl ?c3 ?c4 ?c5 ?_)
  case c3 => unfold maxLen; omega
  case c4 => omega
  case c5 => have := hb1.size; omega
  intro v' w2 hown' hgrow _
  have hlt : b < w1.heap.size := by
    rcases Nat.lt_or_ge b w1.heap.size with h' | h'
    · exact h'
    · simp [Array.getElem?_eq_none h'] at hbk
  have hb2 : w2.heap[b]? = some (.cells #[.pointer (some ⟨b, 0, none⟩), v] tB (0, 0)) := by
    rw [hgrow.block b hlt (fun e => hne e.symm)]
    exact hbk
  have hnb : ∀ k cs, Marked w1 k cs → k ≠ b := fun k cs hk e => by
    subst e
    unfold Marked at hk
    rw [hk] at hbk
    simp only [Option.some.injEq, Obj.cells.injEq] at hbk
    exact absurd hbk.2.1 (by decide)
  have HM : Hid (∀ k cs, Marked w k cs → ∀ u, Marked (w2.setCell ⟨b, 1, none⟩ u) k cs) := Lib.hid (fun k cs hk u => (Below.heap_setCell w2 ⟨b, 1, none⟩ u k (hnb k cs (hm1 k cs hk))).trans ((hgrow.block k (Array.getElem?_eq_some_iff.1 (hm1 k cs hk)).1 (fun e => marked_free (hm1 k cs hk) hown e.symm)).trans (hm1 k cs hk)))
  clear hm1 hnb
  have d0 : w2.cell? ⟨b, 0, none⟩ = some (.pointer (some ⟨b, 0, none⟩)) := by rw [Lib.cell_of_heap hb2]; rfl
  have d1 : w2.cell? ⟨b, 1, none⟩ = some v := by rw [Lib.cell_of_heap hb2]; rfl
  have f1 : w2.frozen? ⟨b, 1, none⟩ = false := Lib.frozen_of_heap hb2 1
  obtain ⟨ao, n', cap, rfl⟩ : ∃ ao n' cap, v' = .slice ao n' cap := by
    rcases hown'.2 with ⟨hv, _⟩ | ⟨g, cap, cur, fz, hv, _⟩
    · exact ⟨_, _, _, hv⟩
    · exact ⟨_, _, _, hv⟩
  go_wp2
  go_ret2
  refine ⟨rfl, ?_, ?_, fun k cs hk => HM.out k cs hk _⟩
  · exact Lib.BuilderAtF.put (T := tB) (e := tU) hB hb2 (bs' := bs ++ Lib.strCells s) (by simpa [Lib.strCells_length] using hown') (by decide)
  · exact (hb1.grown hgrow (by have := hb1.size; omega) (fun k hk => (hown.lt k hk).1)).setCell (p := ⟨b, 1, none⟩) hB _
end Go.Proofs.YtebejlnegalokaaGreatDoor.Nz
