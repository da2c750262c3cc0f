/-
  How deep nodes are, their show: by the program and by the reference.
-/
import Derived.Test.YtbcgdkhkljeomaaDoorProg
import Derived.Test.YtbcgdkhkljeomaaDoorReg
import Derived.WalkKit
import Derived.WalkSpells
import Derived.WalkLawsBesides
import Derived.Lib.Hide
import Derived.Lib.MinMax
import Derived.Deep.QuietTactic
import Derived.BigQuiet
import Derived.OwnWalk
import Derived.Deep.AppendLies
import Derived.KernelRfl
import Derived.Laws.OwnMore
import Derived.Deep.OwnRows
import Derived.Test.YtbcgdkhkljeomaaDoorNdM
import Derived.Test.YtbcgdkhkljeomaaDoorNdN
import Derived.Test.YtbcgdkhkljeomaaDoorNdF
set_option linter.unusedSimpArgs false
set_option linter.unusedVariables false
namespace Go.Proofs.YtbcgdkhkljeomaaDoor
open Go.RowKit Go.Shelf

/-- The depths known when i nodes have come, and d of the next. -/
def dp (t : List Nd) (n i d : Nat) : List Int := (List.range n).map fun (j : Nat) => if j < i then (deepAt t j : Int) else if j = i then (d : Int) else 0
theorem dp_length (t : List Nd) (n i d : Nat) : (dp t n i d).length = n := by simp [dp]
theorem dp_get {t : List Nd} {n i d j : Nat} (h : j < n) : (dp t n i d)[j]? = some (if j < i then (deepAt t j : Int) else if j = i then (d : Int) else 0) := by simp [dp, h]
theorem dp_set {t : List Nd} {n i d e : Nat} (h : i < n) : (dp t n i d).set i (e : Int) = dp t n i e := by
  apply List.ext_getElem?
  intro j
  rw [List.getElem?_set]
  by_cases hj : i = j
  · subst hj
    rw [if_pos rfl, if_pos (by rw [dp_length]; exact h), dp_get h, if_neg (by omega), if_pos rfl]
  · rw [if_neg hj]
    by_cases hn : j < n
    · rw [dp_get hn, dp_get hn]
      by_cases hl : j < i
      · rw [if_pos hl, if_pos hl]
      · rw [if_neg hl, if_neg hl, if_neg (by omega), if_neg (by omega)]
    · rw [List.getElem?_eq_none (by rw [dp_length]; omega), List.getElem?_eq_none (by rw [dp_length]; omega)]
theorem dp_next {t : List Nd} {n i : Nat} : dp t n i (deepAt t i) = dp t n (i + 1) 0 := by
  apply List.ext_getElem?
  intro j
  by_cases hn : j < n
  · rw [dp_get hn, dp_get hn]
    by_cases hl : j < i
    · rw [if_pos hl, if_pos (by omega)]
    · by_cases he : j = i
      · subst he; rw [if_neg hl, if_pos rfl, if_pos (by omega)]
      · rw [if_neg hl, if_neg he, if_neg (by omega)]
        split <;> rfl
  · rw [List.getElem?_eq_none (by rw [dp_length]; omega), List.getElem?_eq_none (by rw [dp_length]; omega)]
theorem dp_none (t : List Nd) (n : Nat) : dp t n 0 0 = cnts n [] := by
  rw [cnts_none]
  apply List.ext_getElem?
  intro j
  by_cases hn : j < n
  · rw [dp_get hn, if_neg (by omega)]
    simp [hn]
  · rw [List.getElem?_eq_none (by rw [dp_length]; omega), List.getElem?_eq_none (by simp; omega)]

set_option maxRecDepth 100000 in
set_option maxHeartbeats 8000000 in
theorem deep_any (t : List Nd) (A : Option Addr) (c : Nat) (w : World) (hh : HoldsN w A t) (hi : IntN t) :
    Calls Tryd.prog 21 #[.slice A t.length c] w fun e w' => e = .returned (.int .i64 (deepN t)) ∧ Below w.heap.size w w' := by
  have HR := Lib.hid (right_any t A c w hh hi)
  cases hr : rightN t with
  | false =>
    rw [hr] at HR
    have HD : Hid (deepN t = 0) := Lib.hid (by unfold deepN; rw [hr]; rfl)
    clear hr hh hi
    go_enter Tryd.func21, Tryd.ntmps21
    go_wp2_with fail
    refine HR.out.mono ?_
    rintro e w0 ⟨rfl, hb⟩
    go_wp2_with fail
    go_ret
    rw [HD.out]
    exact ⟨rfl, hb⟩
  | true =>
    rw [hr] at HR
    have HD : Hid (deepN t = deepAt t (t.length - 1)) := Lib.hid (by unfold deepN; rw [hr]; rfl)
    obtain ⟨r1, r2, hok, _⟩ := rightN_parts hr
    have HOK := Lib.hid hok
    have HDE := Lib.hid (fun i x (h1 : i < t.length) (h2 : t[i]? = some x) => deepAt_eq hok h1 h2)
    have HDL := Lib.hid (fun i (h1 : i < t.length) => deepAt_le hok (i + 1) i (by omega) h1)
    have HH := Lib.hid hh
    have HI := Lib.hid hi
    clear hr hh hi hok
    go_enter Tryd.func21, Tryd.ntmps21
    go_wp2_with fail
    refine HR.out.mono ?_
    rintro e w0 ⟨rfl, hb00⟩
    clear HR
    have hmk := run_make_row' (P := Tryd.prog) 35 3 (.int .i64 0) 8 (by kernel_rfl) infoInt rfl .i64 .i64 t.length (by omega) (by omega)
    have hown0 := made_ints w0 t.length (by omega)
    rw [← dp_none t] at hown0
    have hb0 : Below w.heap.size w (w0.alloc (.cells (madeCells #[.int .i64 0] t.length) 3)) := hb00.alloc hb00.size _
    have hG : w.heap.size ≤ w0.heap.size := hb00.size
    go_wp2_with fail
    clear hmk
    generalize w0.heap.size = G at *
    generalize w0.alloc (.cells (madeCells #[.int .i64 0] t.length) 3) = w1 at *
    clear hb00
    go_loopw [16] (fun v wr => ∃ i : Nat, v = .int .i64 i ∧ i ≤ t.length ∧
        Hid (wr.ownsRow G 3 1 (.slice (some ⟨G, 0, none⟩) t.length t.length) t.length (intCells (dp t t.length i 0))) ∧ Hid (Below w.heap.size w wr))
      (fun v _ => t.length - (intOf v).toNat)
    case atStart => exact ⟨0, rfl, Nat.zero_le _, Lib.hid hown0, Lib.hid hb0⟩
    case round =>
      clear hown0 hb0
      obtain ⟨i, rfl, hi, HO, HB⟩ := hrel
      by_cases hlt : i < t.length
      · have g := List.getElem?_eq_getElem hlt
        have hmem := List.getElem_mem hlt
        generalize t[i] = x at *
        obtain ⟨b, off, rfl, c0, c1, B, c2, c3, hK, hc⟩ := HH.out i x g
        obtain ⟨z1, z2, z3, z4⟩ := HI.out x hmem
        have lb : b < w.heap.size := cell_lt c0
        have hb := HB.out
        have d0 := (hb.cell (p := ⟨b, _, none⟩) lb).trans c0
        have d1 := (hb.cell (p := ⟨b, _, none⟩) lb).trans c1
        have d2 := (hb.cell (p := ⟨b, _, none⟩) lb).trans c3
        have HKx := Lib.hid hK
        have HKD : Hid (∀ k ∈ x.kids, 0 ≤ k ∧ k < (i : Int)) := Lib.hid (fun k hk => nodes_kid HOK.out hlt (by rw [nodeAt_some g]; exact hk))
        have HE := Lib.hid (HDE.out i x hlt g)
        have hW0 : (wr.alloc (.cells #[.int .i64 x.kind, .string x.text, .slice B x.kids.length c2] 37)).heap[wr.heap.size]? = some (.cells #[.int .i64 x.kind, .string x.text, .slice B x.kids.length c2] 37 (0, 0)) := heap_alloc_new _ _
        have hBW0 : Below w.heap.size w (wr.alloc (.cells #[.int .i64 x.kind, .string x.text, .slice B x.kids.length c2] 37)) := hb.alloc hb.size _
        have hOW0 := HO.out.alloc (.cells #[.int .i64 x.kind, .string x.text, .slice B x.kids.length c2] 37)
        clear c0 c1 c3 hK g hmem z4 z1 hb
        go_wp2_with fail
        generalize (wr.alloc (.cells #[.int .i64 x.kind, .string x.text, .slice B x.kids.length c2] 37)) = W0 at *
        clear HO HB d0 d1 d2 hW0
        generalize hks : x.kids = ks at *
        clear hks
        go_loopw [24] (fun v wr => ∃ (q d : Nat), v = .int .i64 q ∧ q ≤ ks.length ∧ d ≤ 1000 ∧ Hid ((ks.drop q).foldl (fun m k => max m (deepAt t k.toNat)) d + 1 = deepAt t i) ∧
          Hid (wr.ownsRow G 3 1 (.slice (some ⟨G, 0, none⟩) t.length t.length) t.length (intCells (dp t t.length i d))) ∧ Hid (Below w.heap.size w wr))
          (fun v _ => ks.length - (intOf v).toNat)
        case atStart => exact ⟨0, 0, rfl, Nat.zero_le _, by omega, Lib.hid HE.out.symm, Lib.hid hOW0, Lib.hid hBW0⟩
        case round =>
          clear hOW0 hBW0 HE
          obtain ⟨q, d, rfl, hq, hd, HF, HO, HB⟩ := hrel
          by_cases hlt2 : q < ks.length
          · have g2 := List.getElem?_eq_getElem hlt2
            have hmem2 := List.getElem_mem hlt2
            obtain ⟨hk0, hk9⟩ := HKD.out _ hmem2
            obtain ⟨b2, off2, rfl, e0⟩ := HKx.out q _ g2
            have e1 := (HB.out.cell (p := ⟨b2, _, none⟩) (cell_lt e0)).trans e0
            have HF2 : Hid ((ks.drop (q + 1)).foldl (fun m k => max m (deepAt t k.toNat)) (max d (deepAt t ks[q].toNat)) + 1 = deepAt t i) := Lib.hid (by rw [← HF.out, List.drop_eq_getElem_cons hlt2, List.foldl_cons])
            have hdl := HDL.out ks[q].toNat (by omega)
            have hdl2 : deepAt t ks[q].toNat ≤ 1000 := by omega
            generalize ks[q] = k at *
            have hgk : (intCells (dp t t.length i d))[k.toNat]? = some (.int .i64 (deepAt t k.toNat)) := by
              simp only [intCells, List.getElem?_map, dp_get (show k.toNat < t.length by omega), Option.map_some]
              rw [if_pos (by omega)]
            have hgi : (intCells (dp t t.length i d))[i]? = some (.int .i64 d) := by
              simp only [intCells, List.getElem?_map, dp_get hlt, Option.map_some]
              rw [if_neg (by omega), if_pos trivial]
            have f1 : wr.cell? ⟨G, k.toNat, none⟩ = some (.int .i64 (deepAt t k.toNat)) := (HO.out.cellAt k.toNat (by omega)).trans hgk
            have f2 : wr.cell? ⟨G, i, none⟩ = some (.int .i64 d) := (HO.out.cellAt i (by omega)).trans hgi
            have f3 : wr.frozen? ⟨G, i, none⟩ = false := HO.out.frozenAt i
            generalize deepAt t k.toNat = r at *
            obtain ⟨ho3, _⟩ := HO.out.stored i (.int .i64 ((max d r : Nat) : Int))
            rw [intCells_set, dp_set hlt] at ho3
            have HO3 := Lib.hid ho3
            have HB3 := Lib.hid (HB.out.setCell (p := ⟨G, i, none⟩) hG (.int .i64 ((max d r : Nat) : Int)))
            have HMX : Hid (max (d : Int) (r : Int) = ((max d r : Nat) : Int)) := Lib.hid (by omega)
            have hkt : k < (t.length : Int) := by omega
            have hnn : (0 : Int) ≤ (i : Int) := by omega
            clear hgk hgi ho3 e0 g2 hmem2 HF
            go_wp2_with fail
            go_region
            rw [HMX.out]
            go_wp2_with fail
            go_roundw
            case rel => exact ⟨q + 1, max d r, by go_num, by omega, by omega, HF2, Lib.hid HO3.out.drew, Lib.hid HB3.out.drew⟩
            case measure => simp [intOf]; omega
          · obtain rfl : q = ks.length := by omega
            have HF2 : Hid (d + 1 = deepAt t i) := Lib.hid (by rw [← HF.out, List.drop_of_length_le (Nat.le_refl _)]; rfl)
            have hgi : (intCells (dp t t.length i d))[i]? = some (.int .i64 d) := by
              simp only [intCells, List.getElem?_map, dp_get hlt, Option.map_some]
              rw [if_neg (by omega), if_pos trivial]
            have f2 : wr.cell? ⟨G, i, none⟩ = some (.int .i64 d) := (HO.out.cellAt i (by omega)).trans hgi
            have f3 : wr.frozen? ⟨G, i, none⟩ = false := HO.out.frozenAt i
            obtain ⟨ho3, _⟩ := HO.out.stored i (.int .i64 ((d : Int) + 1))
            rw [intCells_set, show ((d : Int) + 1) = ((d + 1 : Nat) : Int) by omega, dp_set hlt, HF2.out, dp_next] at ho3
            have HE3 : Hid ((d : Int) + 1 = ((deepAt t i : Nat) : Int)) := Lib.hid (by rw [← HF2.out]; rfl)
            have HO3 := Lib.hid ho3
            have HB3 := Lib.hid (HB.out.setCell (p := ⟨G, i, none⟩) hG (.int .i64 ((deepAt t i : Nat) : Int)))
            clear hgi ho3 HF
            go_wp2_with fail
            rw [HE3.out]
            go_roundw
            case rel => exact ⟨i + 1, by go_num, by omega, HO3, HB3⟩
            case measure => simp [intOf]; omega
      · obtain rfl : i = t.length := by omega
        have hgk : (intCells (dp t t.length t.length 0))[t.length - 1]? = some (.int .i64 (deepAt t (t.length - 1))) := by
          simp only [intCells, List.getElem?_map, dp_get (show t.length - 1 < t.length by omega), Option.map_some]
          rw [if_pos (by omega)]
        have f1 : wr.cell? ⟨G, t.length - 1, none⟩ = some (.int .i64 (deepAt t (t.length - 1))) := (HO.out.cellAt (t.length - 1) (by omega)).trans hgk
        have hw4 : IntKind.i64.wrap ((t.length : Int) - 1) = (t.length : Int) - 1 := IntWalk.i64_in _ (by omega)
        have hw5 : ((t.length : Int) - 1).toNat = t.length - 1 := by omega
        have hw6 : (0 : Int) ≤ (t.length : Int) - 1 := by omega
        have hw7 : (t.length : Int) - 1 < (t.length : Int) := by omega
        clear hgk
        go_wp2_with fail
        go_ret
        rw [HD.out]
        exact ⟨rfl, HB.out⟩
end Go.Proofs.YtbcgdkhkljeomaaDoor
