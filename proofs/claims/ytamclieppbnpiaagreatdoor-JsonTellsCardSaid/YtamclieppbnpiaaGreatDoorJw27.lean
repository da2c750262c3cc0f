/-
  A text's text: by the document's program text.
-/
import Derived.Test.YtamclieppbnpiaaGreatDoorProg
import Derived.Test.YtamclieppbnpiaaGreatDoorReg
import Derived.WalkKit
import Derived.WalkSpells
import Derived.WalkLawsBesides
import Derived.Lib.Hide
import Derived.Lib.MinMax
import Derived.Deep.QuietTactic
import Derived.BigQuiet
import Derived.OwnWalk
import Derived.Deep.AppendLies
import Derived.KernelRfl
import Derived.Laws.RangeAny
import Derived.Laws.IdiomStrings
import Derived.Laws.OwnMore
import Derived.Deep.RegionLaw
import Derived.Deep.RegionWith
import Derived.Test.YtamclieppbnpiaaGreatDoorJw12
import Derived.Test.YtamclieppbnpiaaGreatDoorJw15
set_option linter.unusedSimpArgs false
set_option linter.unusedVariables false
namespace Go.Proofs.YtamclieppbnpiaaGreatDoor
open Go Go.RowKit Go.Sort Go.Shelf
open Fz (HoldsS)
open Lz (wpList_append_run wp_append_run)

theorem byteCells_length (l : List UInt8) : (Lib.byteCells l).length = l.length := Lib.byteCells_length l
theorem push_bytes {W : World} {base : Nat} {v : Value} {l xs : List UInt8} {g : Nat} (hg : W.heap[g]? = some (.cells (Lib.byteCells xs).toArray tU (0, 0))) (hown : W.ownsRow base tU 1 v l.length (Lib.byteCells l)) (hl : l.length + xs.length ≤ 1000000000000) (hx : 0 < xs.length) (hbase : base ≤ W.heap.size) :
    ∃ g' c w', (Builtin.append_ #[86, 86] 86 #[v, .slice (some ⟨g, 0, none⟩) xs.length xs.length]).run Tryz.prog W = .ok (.slice (some ⟨g', 0, none⟩) (l ++ xs).length c) w' ∧ w'.ownsRow base tU 1 (.slice (some ⟨g', 0, none⟩) (l ++ xs).length c) (l ++ xs).length (Lib.byteCells (l ++ xs)) ∧ W.grownBy w' v.ownBlock ∧
      (convert 86 9 (.slice (some ⟨g', 0, none⟩) (l ++ xs).length c)).run Tryz.prog w' = .ok (.string (bs (l ++ xs))) w' := by
  obtain ⟨i0, hi0, hz0, hz1, hz2⟩ := info_parts infoU
  obtain ⟨v', w', hr, ho, hgr, _, hnew⟩ := run_append_own_at (P := Tryz.prog) W base 86 86 tU i0 _ 1 1 Tryz.underlying86 hi0 hz0 hz1 hz2 rfl (by decide) v l.length (Lib.byteCells l) hown ⟨g, 0, none⟩ xs.length xs.length (Lib.byteCells xs) (by rw [byteCells_length, Nat.mul_one])
    (World.news_of_block (cs := (Lib.byteCells xs).toArray) (t := tU) (fr := (0, 0)) hg) (fun u hu => by
      unfold Lib.byteCells at hu
      obtain ⟨b, _, rfl⟩ := List.mem_map.1 hu
      rfl) (by unfold maxLen; omega) (by omega) hbase
  rw [← byteCells_app, ← List.length_append] at ho
  obtain ⟨A, c, rfl, hc, hgA⟩ := own_form ho
  obtain ⟨g', rfl, _, _, hcell⟩ := hgA (by rw [List.length_append]; omega)
  refine ⟨g', c, w', hr, ho, hgr, ?_⟩
  exact run_convert_bytes_back (P := Tryz.prog) w' 86 9 5 ⟨g', 0, none⟩ c (l ++ xs) Tryz.underlying86 Tryz.underlying5 Tryz.underlying9 (fun j hj => by
    rw [add_lit]
    exact hcell j _ (by unfold Lib.byteCells; rw [List.getElem?_map, List.getElem?_eq_getElem hj]; rfl))
theorem flat_step {l : List UInt8} {k : Nat} {c : UInt8} (h : l[k]? = some c) : (l.drop k).flatMap escB = escB c ++ (l.drop (k + 1)).flatMap escB := by
  obtain ⟨hk, rfl⟩ := List.getElem?_eq_some_iff.1 h
  rw [List.drop_eq_getElem_cons hk, List.flatMap_cons]

set_option maxRecDepth 100000 in
set_option maxHeartbeats 8000000 in
theorem quote_any (l : List UInt8) (w : World) (hl : l.length ≤ 1000000000) :
    Calls Tryz.prog 38 #[.string (bs l)] w fun e w' => e = .returned (.string (bs (quoteL l))) ∧ Below w.heap.size w w' := by
  have hz : (bs l).size = l.length := bs_size l
  have h1 : (w.alloc (.cells #[.int .u8 34] tU)).ownsRow w.heap.size tU 1 (.slice (some ⟨w.heap.size, 0, none⟩) 1 1) [(34 : UInt8)].length (Lib.byteCells [34]) :=
    ⟨rfl, .inr ⟨w.heap.size, 1, #[.int .u8 34], rfl, Nat.le_refl _, heap_alloc_new w _, Nat.le_refl _, by unfold maxLen; omega, rfl, rfl⟩⟩
  have H1 := Lib.hid h1
  have HB1 := Lib.hid (below_new w (.cells #[.int .u8 34] tU))
  clear h1
  go_enter Tryz.func38, Tryz.ntmps38
  go_wp2_with fail
  go_loopw [4, 5] (fun o i wr => ∃ (k : Nat) (acc : List UInt8), i = .int .i64 k ∧ k ≤ l.length ∧ acc.length ≤ 6 * k + 1 ∧ Hid (wr.ownsRow w.heap.size tU 1 o acc.length (Lib.byteCells acc)) ∧ Hid (acc ++ (l.drop k).flatMap escB = 34 :: l.flatMap escB) ∧ Hid (Below w.heap.size w wr)) (fun _ i _ => l.length - (intOf i).toNat)
  case atStart => exact ⟨0, [34], rfl, Nat.zero_le _, by simp, H1, Lib.hid rfl, HB1⟩
  case round =>
    obtain ⟨k, acc, rfl, hk, hal, HO, HA, HB⟩ := hrel
    have i0 : (0 : Int) ≤ (k : Int) := by omega
    have hsz := HB.out.size
    by_cases h1 : k < l.length
    · have i1 : (k : Int) < ((bs l).size : Int) := by omega
      have i2 : (k : Int) < (l.length : Int) := by omega
      have gx := List.getElem?_eq_getElem (l := l) (i := k) h1
      have hA := HA.out
      rw [flat_step gx] at hA
      have hget : ∀ h, ((bs l)[k]'h).toNat = (l[k]'h1).toNat := fun h => by
        have e : (bs l).data.toList[k]? = some (l[k]'h1) := by rw [bs_list, gx]
        obtain ⟨_, e2⟩ := List.getElem?_eq_some_iff.1 e
        rw [← e2]; rfl
      generalize l[k]'h1 = c at *
      have HAn := Lib.hid hA
      have hc8 := UInt8.toNat_lt c
      clear gx hA HA
      by_cases h32 : c.toNat < 32
      · have q1 : (c.toNat : Int) < 32 := by omega
        have hE : escB c = [92, 117, 48, 48, hexd (c.toNat / 16), hexd (c.toNat % 16)] := by unfold escB; rw [if_pos h32]
        rw [hE] at HAn
        have k0 : (0 : Int) ≤ (c.toNat : Int) / 16 := by omega
        have k1 : (c.toNat : Int) / 16 < 16 := by omega
        have k2 : (0 : Int) ≤ (c.toNat : Int) % 16 := by omega
        have k3 : (c.toNat : Int) % 16 < 16 := by omega
        have k8 : IntKind.u8.wrap ((c.toNat : Int) / 16) = (c.toNat : Int) / 16 := IntWalk.u8_in _ (by omega)
        have k9 : IntKind.u8.wrap ((c.toNat : Int) % 16) = (c.toNat : Int) % 16 := IntWalk.u8_in _ (by omega)
        have k10 : (c.toNat : Int).tmod 16 = (c.toNat : Int) % 16 := Int.tmod_eq_emod_of_nonneg (by omega)
        have k5 := fun hm => hex_get (c.toNat / 16) (by omega) ((c.toNat : Int) / 16).toNat (by omega) hm
        have k6 := fun hm => hex_get (c.toNat % 16) (by omega) (c.toNat % 16) rfl hm
        have k7 := fun hm => hex_get (c.toNat % 16) (by omega) ((c.toNat : Int) % 16).toNat (by omega) hm
        clear hE
        generalize hexd (c.toNat / 16) = a1 at *
        generalize hexd (c.toNat % 16) = a2 at *
        obtain ⟨g9, c9, w9, hrun, hO9, hg9, _⟩ := push_bytes (W := (wr.alloc (.cells #[.int .u8 92, .int .u8 117, .int .u8 48, .int .u8 48, .int .u8 a1.toNat, .int .u8 a2.toNat] tU)).drew) (l := acc) (xs := [92, 117, 48, 48, a1, a2]) (g := wr.heap.size) (base := w.heap.size) (heap_alloc_new wr _) (own_same HO.out (fun g hg => (below_new wr _).block g (HO.out.lt g hg).2)) (by simp; omega) (by simp) (by show w.heap.size ≤ (wr.alloc _).heap.size; simp; omega)
        have HO9 := Lib.hid hO9
        have HB9 := Lib.hid ((HB.out.trans (((below_new wr (.cells #[.int .u8 92, .int .u8 117, .int .u8 48, .int .u8 48, .int .u8 a1.toNat, .int .u8 a2.toNat] tU)).drew).mono hsz)).grown hg9 (by show w.heap.size ≤ (wr.alloc _).heap.size; simp; omega) (fun k e => (HO.out.lt k e).1))
        have hl6 : (acc ++ [92, 117, 48, 48, a1, a2]).length ≤ 6 * (k + 1) + 1 := by simp; omega
        have HA6 : Hid ((acc ++ [92, 117, 48, 48, a1, a2]) ++ (l.drop (k + 1)).flatMap escB = 34 :: l.flatMap escB) := Lib.hid (by rw [← HAn.out]; simp)
        clear hO9 hg9 HAn
        simp only [List.length_cons, List.length_nil, Nat.reduceAdd] at hrun
        generalize acc ++ [92, 117, 48, 48, a1, a2] = acc2 at *
        go_wp2_with fail
        refine wp_region_ord (S := fun _ => True) [0, 1, 2, 3, 4, 5, 6, 7, 8] [9, 10, 11] (by kernel_rfl) (by kernel_rfl) (fun _ _ _ _ _ h => h) trivial ?_
        simp only [pick, List.filterMap_cons, List.filterMap_nil, List.getElem?_toArray, List.getElem?_cons_zero, List.getElem?_cons_succ]
        repeat (refine wpHead_step (v := ?_) rfl ?_ ?_; rotate_left; (focus (rintro w1 _; go_simp; try with_reducible rfl)); simp only [Act.put, List.setIfInBounds_toArray, List.set_cons_zero, List.set_cons_succ])
        refine wpHead_nil ?_
        refine wpTail_step rfl (fun K hK => ?_)
        go_wp2_with fail
        refine hK _ _ trivial ?_
        clear hK K
        try simp only [Act.put, List.setIfInBounds_toArray, List.set_cons_zero, List.set_cons_succ]
        refine wpTail_step rfl (fun K hK => ?_)
        refine wp_append_run _ _ 86 86 rfl rfl rfl hrun ?_
        refine hK _ _ trivial ?_
        clear hK K
        try simp only [Act.put, List.setIfInBounds_toArray, List.set_cons_zero, List.set_cons_succ]
        refine wpTail_step rfl (fun K hK => ?_)
        go_wp2_with fail
        refine hK _ _ trivial ?_
        clear hK K
        try simp only [Act.put, List.setIfInBounds_toArray, List.set_cons_zero, List.set_cons_succ]
        refine wpTail_nil ?_
        go_wp2_with fail
        go_roundw
        case rel => exact ⟨k + 1, acc2, by go_num, by omega, hl6, HO9, HA6, HB9⟩
        case measure => simp [intOf]; omega
      have q1 : ¬ (c.toNat : Int) < 32 := by omega
      by_cases h34 : c = 34
      · subst h34
        have hE : escB 34 = [92, 34] := by decide
        rw [hE] at HAn
        clear hE
        obtain ⟨g9, c9, w9, hrun, hO9, hg9, _⟩ := push_bytes (W := (wr.alloc (.cells #[.int .u8 92, .int .u8 34] tU))) (l := acc) (xs := [92, 34]) (g := wr.heap.size) (base := w.heap.size) (heap_alloc_new wr _) (own_same HO.out (fun g hg => (below_new wr _).block g (HO.out.lt g hg).2)) (by simp; omega) (by simp) (by show w.heap.size ≤ (wr.alloc _).heap.size; simp; omega)
        have HO9 := Lib.hid hO9
        have HB9 := Lib.hid ((HB.out.trans (((below_new wr (.cells #[.int .u8 92, .int .u8 34] tU))).mono hsz)).grown hg9 (by show w.heap.size ≤ (wr.alloc _).heap.size; simp; omega) (fun k e => (HO.out.lt k e).1))
        have hl6 : (acc ++ [92, 34]).length ≤ 6 * (k + 1) + 1 := by simp; omega
        have HA6 : Hid ((acc ++ [92, 34]) ++ (l.drop (k + 1)).flatMap escB = 34 :: l.flatMap escB) := Lib.hid (by rw [← HAn.out]; simp)
        clear hO9 hg9 HAn
        simp only [List.length_cons, List.length_nil, Nat.reduceAdd] at hrun
        generalize acc ++ [92, 34] = acc2 at *
        go_wp2_with (at_builtin; go_must (refine wpList_append_run rfl _ _ 86 86 rfl rfl rfl hrun ?_))
        go_roundw
        case rel => exact ⟨k + 1, acc2, by go_num, by omega, hl6, HO9, HA6, HB9⟩
        case measure => simp [intOf]; omega
      by_cases h92 : c = 92
      · subst h92
        have hE : escB 92 = [92, 92] := by decide
        rw [hE] at HAn
        clear hE
        obtain ⟨g9, c9, w9, hrun, hO9, hg9, _⟩ := push_bytes (W := (wr.alloc (.cells #[.int .u8 92, .int .u8 92] tU))) (l := acc) (xs := [92, 92]) (g := wr.heap.size) (base := w.heap.size) (heap_alloc_new wr _) (own_same HO.out (fun g hg => (below_new wr _).block g (HO.out.lt g hg).2)) (by simp; omega) (by simp) (by show w.heap.size ≤ (wr.alloc _).heap.size; simp; omega)
        have HO9 := Lib.hid hO9
        have HB9 := Lib.hid ((HB.out.trans (((below_new wr (.cells #[.int .u8 92, .int .u8 92] tU))).mono hsz)).grown hg9 (by show w.heap.size ≤ (wr.alloc _).heap.size; simp; omega) (fun k e => (HO.out.lt k e).1))
        have hl6 : (acc ++ [92, 92]).length ≤ 6 * (k + 1) + 1 := by simp; omega
        have HA6 : Hid ((acc ++ [92, 92]) ++ (l.drop (k + 1)).flatMap escB = 34 :: l.flatMap escB) := Lib.hid (by rw [← HAn.out]; simp)
        clear hO9 hg9 HAn
        simp only [List.length_cons, List.length_nil, Nat.reduceAdd] at hrun
        generalize acc ++ [92, 92] = acc2 at *
        go_wp2_with (at_builtin; go_must (refine wpList_append_run rfl _ _ 86 86 rfl rfl rfl hrun ?_))
        go_roundw
        case rel => exact ⟨k + 1, acc2, by go_num, by omega, hl6, HO9, HA6, HB9⟩
        case measure => simp [intOf]; omega
      have n34 : c.toNat ≠ 34 := fun h => h34 (UInt8.toNat.inj h)
      have n92 : c.toNat ≠ 92 := fun h => h92 (UInt8.toNat.inj h)
      have q2 : ((c.toNat : Int) == 34) = false := by simp; omega
      have q3 : ((c.toNat : Int) == 92) = false := by simp; omega
      have hE : escB c = [c] := by unfold escB; rw [if_neg h32, if_neg (by simp [h34, h92])]
      rw [hE] at HAn
      clear hE
      obtain ⟨g9, c9, w9, hrun, hO9, hg9, _⟩ := push_bytes (W := (wr.alloc (.cells #[.int .u8 c.toNat] tU))) (l := acc) (xs := [c]) (g := wr.heap.size) (base := w.heap.size) (heap_alloc_new wr _) (own_same HO.out (fun g hg => (below_new wr _).block g (HO.out.lt g hg).2)) (by simp; omega) (by simp) (by show w.heap.size ≤ (wr.alloc _).heap.size; simp; omega)
      have HO9 := Lib.hid hO9
      have HB9 := Lib.hid ((HB.out.trans (((below_new wr (.cells #[.int .u8 c.toNat] tU))).mono hsz)).grown hg9 (by show w.heap.size ≤ (wr.alloc _).heap.size; simp; omega) (fun k e => (HO.out.lt k e).1))
      have hl6 : (acc ++ [c]).length ≤ 6 * (k + 1) + 1 := by simp; omega
      have HA6 : Hid ((acc ++ [c]) ++ (l.drop (k + 1)).flatMap escB = 34 :: l.flatMap escB) := Lib.hid (by rw [← HAn.out]; simp)
      clear hO9 hg9 HAn
      simp only [List.length_cons, List.length_nil, Nat.reduceAdd] at hrun
      generalize acc ++ [c] = acc2 at *
      go_wp2_with (at_builtin; go_must (refine wpList_append_run rfl _ _ 86 86 rfl rfl rfl hrun ?_))
      go_roundw
      case rel => exact ⟨k + 1, acc2, by go_num, by omega, hl6, HO9, HA6, HB9⟩
      case measure => simp [intOf]; omega
    · obtain rfl : k = l.length := by omega
      have i1 : ¬ (l.length : Int) < ((bs l).size : Int) := by omega
      have hA := HA.out
      rw [List.drop_length] at hA
      have HA2 : Hid (acc ++ [34] = quoteL l) := Lib.hid (by
        have e : acc = 34 :: l.flatMap escB := by simpa using hA
        rw [e]; rfl)
      clear hA
      obtain ⟨g9, c9, w9, hrun, hO9, hg9, hcv⟩ := push_bytes (W := wr.alloc (.cells #[.int .u8 34] tU)) (l := acc) (xs := [34]) (g := wr.heap.size) (base := w.heap.size) (heap_alloc_new wr _) (own_same HO.out (fun g hg => (below_new wr _).block g (HO.out.lt g hg).2)) (by simp; omega) (by simp) (by simp; omega)
      have HB9 := Lib.hid ((HB.out.trans ((below_new wr (.cells #[.int .u8 34] tU)).mono hsz)).grown hg9 (by simp; omega) (fun k e => (HO.out.lt k e).1))
      rw [HA2.out] at hcv hrun
      simp only [List.length_cons, List.length_nil, Nat.reduceAdd] at hrun
      clear hO9 hg9
      go_wp2_with (at_builtin; go_must (refine wpList_append_run rfl _ _ 86 86 rfl rfl rfl hrun ?_))
      go_ret
      exact ⟨rfl, HB9.out⟩
set_option maxHeartbeats 1000000 in
theorem RQuote_any (l : List UInt8) (w : World) (hl : l.length ≤ 1000000) :
    Calls Tryz.prog 21 #[.string (bs l)] w fun e w' => e = .returned (.tuple #[.string (bs (if Lib.validD l then quoteL l else [])), .bool (Lib.validD l)]) ∧ Below w.heap.size w w' := by
  have HV := Lib.hid (utf_any l w hl)
  cases hv : Lib.validD l with
  | false =>
    rw [hv] at HV
    go_enter Tryz.func21, Tryz.ntmps21
    go_wp2_with fail
    refine HV.out.mono ?_
    rintro e w1 ⟨rfl, rfl⟩
    go_wp2_with fail
    go_ret2
    exact ⟨rfl, Below.refl _ _⟩
  | true =>
    have HQ := Lib.hid (fun W => quote_any l W (by omega))
    rw [hv] at HV
    go_enter Tryz.func21, Tryz.ntmps21
    go_wp2_with fail
    refine HV.out.mono ?_
    rintro e w1 ⟨rfl, rfl⟩
    go_wp2_with fail
    refine (HQ.out _).mono ?_
    rintro e w2 ⟨rfl, hb2⟩
    have HB2 := Lib.hid hb2
    clear hb2
    go_wp2_with fail
    go_ret2
    exact ⟨rfl, HB2.out⟩
end Go.Proofs.YtamclieppbnpiaaGreatDoor
/-
  Numbers' digits, runes' bytes: by the document's program text.
-/
namespace Go.Proofs.YtamclieppbnpiaaGreatDoor
open Go Go.RowKit Go.Sort Go.Shelf
open Fz (HoldsS)

theorem digits_low {u : Nat} (h : u < 10) : Lib.decDigits u = [UInt8.ofNat (48 + u)] := Lib.decDigits_one h
theorem digits_high {u : Nat} (h : ¬ u < 10) : Lib.decDigits u = Lib.decDigits (u / 10) ++ Lib.decDigits (u % 10) := by
  rw [Lib.decDigits_one (Nat.mod_lt u (by omega))]
  conv => lhs; rw [Lib.decDigits, dif_neg h]
theorem digits_len {u : Nat} (h : u ≤ 9223372036854775808) : (Lib.decDigits u).length ≤ 21 := by
  by_cases h2 : u ≤ 9223372036854775807
  · have := Lib.itoa_length_le (u : Int) (by omega) (by omega)
    rwa [Lib.itoa_nonneg] at this
  · obtain rfl : u = 9223372036854775808 := by omega
    have := Lib.itoa_length_le (-((9223372036854775808 : Nat) : Int)) (by omega) (by omega)
    rw [Lib.itoa_neg _ (by omega)] at this
    simp only [List.length_cons] at this
    omega
theorem one_cell (w : World) (a : UInt8) : ∀ j (hj : j < [a].length), (w.alloc (.cells #[.int .u8 a.toNat] tU)).cell? ((⟨w.heap.size, 0, none⟩ : Addr).add j) = some (.int .u8 ([a][j].toNat : Int)) := by
  intro j hj
  have h := heap_alloc_new w (.cells #[.int .u8 a.toNat] tU)
  rw [addr_add0']
  match j, hj with
  | 0, _ => rw [Lib.cell_of_heap h]; rfl
set_option maxRecDepth 100000 in
set_option maxHeartbeats 8000000 in
theorem Digits_low (u : Nat) (w : World) (h10 : u < 10) :
    Calls Tryz.prog 88 #[.int .i64 u] w fun e w' => e = .returned (.string (bs (Lib.decDigits u))) ∧ Below w.heap.size w w' := by
  have q2 : (u : Int) < 10 := by omega
  have q3 : ((u : Int) < 0) = False := by simp
  have HD := Lib.hid (digits_low h10)
  have hn : (UInt8.ofNat (48 + u)).toNat = 48 + u := u8n (by omega)
  have hst := run_convert_bytes_back (P := Tryz.prog) (w.alloc (.cells #[.int .u8 (UInt8.ofNat (48 + u)).toNat] tU)) 86 9 5 ⟨w.heap.size, 0, none⟩ 1 [UInt8.ofNat (48 + u)] Tryz.underlying86 Tryz.underlying5 Tryz.underlying9 (one_cell w _)
  rw [hn] at hst
  simp only [List.length_cons, List.length_nil, Nat.reduceAdd] at hst
  have e : ((48 + u : Nat) : Int) = 48 + (u : Int) := by omega
  rw [e] at hst
  clear e hn
  generalize UInt8.ofNat (48 + u) = x at *
  go_enter Tryz.func88, Tryz.ntmps88
  go_wp2_with fail
  go_ret
  rw [HD.out]
  exact ⟨rfl, below_new _ _⟩
set_option maxRecDepth 100000 in
set_option maxHeartbeats 8000000 in
theorem Digits_step (u : Nat) (w : World) (h10 : ¬ u < 10) (hu : u ≤ 9223372036854775807)
    (H : ∀ m, m < u → ∀ W : World, Calls Tryz.prog 88 #[.int .i64 m] W fun e w' => e = .returned (.string (bs (Lib.decDigits m))) ∧ Below W.heap.size W w') :
    Calls Tryz.prog 88 #[.int .i64 u] w fun e w' => e = .returned (.string (bs (Lib.decDigits u))) ∧ Below w.heap.size w w' := by
  have q1 : ¬ (u : Int) < 0 := by omega
  have q2 : ¬ (u : Int) < 10 := by omega
  have q3 : (0 : Int) ≤ (u : Int) := by omega
  have HD := Lib.hid (digits_high h10)
  have h1 := H (u / 10) (by omega)
  have h2 := H (u % 10) (by omega)
  rw [Int.natCast_ediv] at h1
  rw [Int.natCast_emod] at h2
  have H1 := Lib.hid h1
  have H2 := Lib.hid h2
  have z1 : (bs (Lib.decDigits (u / 10))).size ≤ 21 := by rw [bs_size]; exact digits_len (by omega)
  have z2 : (bs (Lib.decDigits (u % 10))).size ≤ 21 := by rw [bs_size]; exact digits_len (by omega)
  have HE : Hid (bs (Lib.decDigits (u / 10)) ++ bs (Lib.decDigits (u % 10)) = bs (Lib.decDigits u)) := Lib.hid (by rw [bs_app, HD.out])
  clear h1 h2 H HD
  generalize bs (Lib.decDigits (u / 10)) = D1 at *
  generalize bs (Lib.decDigits (u % 10)) = D2 at *
  go_enter Tryz.func88, Tryz.ntmps88
  go_wp2_with fail
  refine (H1.out _).mono ?_
  rintro e w1 ⟨rfl, hb1⟩
  go_wp2_with fail
  refine (H2.out _).mono ?_
  rintro e w2 ⟨rfl, hb2⟩
  have HB := Lib.hid (hb1.trans (hb2.mono hb1.size))
  clear hb1 hb2 H1 H2
  go_wp2_with fail
  go_ret
  rw [← HE.out]
  exact ⟨rfl, HB.out⟩
theorem Digits_nat (u : Nat) : u ≤ 9223372036854775807 → ∀ w : World,
    Calls Tryz.prog 88 #[.int .i64 u] w fun e w' => e = .returned (.string (bs (Lib.decDigits u))) ∧ Below w.heap.size w w' := by
  induction u using Nat.strongRecOn with
  | _ u ih =>
    intro hu w
    by_cases h10 : u < 10
    · exact Digits_low u w h10
    · exact Digits_step u w h10 hu (fun m hm W => ih m hm (by omega) W)
/-- The high minus. -/
def highL : List UInt8 := [194, 175]
set_option maxRecDepth 100000 in
set_option maxHeartbeats 8000000 in
theorem DigitsN_low (u : Nat) (w : World) (h0 : 0 < u) (h10 : u < 10) :
    Calls Tryz.prog 88 #[.int .i64 (-(u : Int))] w fun e w' => e = .returned (.string (bs (highL ++ Lib.decDigits u))) ∧ Below w.heap.size w w' := by
  have HC := Lib.hid (Digits_low u)
  have e1 : (-(u : Int)).tdiv 10 = 0 := by rw [Int.neg_tdiv, Int.tdiv_eq_ediv_of_nonneg (by omega)]; omega
  have e2 : -(-(u : Int)) = (u : Int) := by omega
  have e3 : IntKind.i64.wrap (u : Int) = (u : Int) := IntWalk.i64_in _ (by omega)
  have q1 : -(u : Int) < 0 := by omega
  have z2 : (bs (Lib.decDigits u)).size ≤ 21 := by rw [bs_size]; exact digits_len (by omega)
  have HE : Hid ((⟨#[194, 175]⟩ : ByteArray) ++ bs (Lib.decDigits u) = bs (highL ++ Lib.decDigits u)) := Lib.hid (by
    show bs highL ++ _ = _
    rw [bs_app])
  generalize bs (Lib.decDigits u) = D2 at *
  generalize hn : -(u : Int) = n at *
  clear hn
  go_enter Tryz.func88, Tryz.ntmps88
  go_wp2_with fail
  refine (HC.out _ h10).mono ?_
  rintro e w2 ⟨rfl, hb2⟩
  have HB := Lib.hid hb2
  clear hb2
  go_wp2_with fail
  go_ret
  rw [← HE.out]
  exact ⟨rfl, HB.out⟩
set_option maxRecDepth 100000 in
set_option maxHeartbeats 8000000 in
theorem DigitsN_step (u : Nat) (w : World) (h10 : ¬ u < 10) (hu : u ≤ 9223372036854775808)
    (H : ∀ m, 0 < m → m < u → ∀ W : World, Calls Tryz.prog 88 #[.int .i64 (-(m : Int))] W fun e w' => e = .returned (.string (bs (highL ++ Lib.decDigits m))) ∧ Below W.heap.size W w') :
    Calls Tryz.prog 88 #[.int .i64 (-(u : Int))] w fun e w' => e = .returned (.string (bs (highL ++ Lib.decDigits u))) ∧ Below w.heap.size w w' := by
  have H1 := Lib.hid (H (u / 10) (by omega) (by omega))
  have H2 := Lib.hid (fun W => Digits_low (u % 10) W (by omega))
  have HD := Lib.hid (digits_high h10)
  have e1 : (-(u : Int)).tdiv 10 = -((u / 10 : Nat) : Int) := by rw [Int.neg_tdiv, Int.tdiv_eq_ediv_of_nonneg (by omega)]; omega
  have e2 : (-(u : Int)).tmod 10 = -((u % 10 : Nat) : Int) := by rw [Int.neg_tmod, Int.tmod_eq_emod_of_nonneg (by omega)]; omega
  have z1 : (bs (highL ++ Lib.decDigits (u / 10))).size ≤ 23 := by
    have := digits_len (u := u / 10) (by omega)
    rw [bs_size, List.length_append]
    simp only [highL, List.length_cons, List.length_nil]
    omega
  have z2 : (bs (Lib.decDigits (u % 10))).size ≤ 21 := by rw [bs_size]; exact digits_len (by omega)
  have HE : Hid (bs (highL ++ Lib.decDigits (u / 10)) ++ bs (Lib.decDigits (u % 10)) = bs (highL ++ Lib.decDigits u)) := Lib.hid (by rw [bs_app, HD.out, List.append_assoc])
  have q1 : -(u : Int) < 0 := by omega
  generalize bs (highL ++ Lib.decDigits (u / 10)) = D1 at *
  generalize bs (Lib.decDigits (u % 10)) = D2 at *
  have q0 : 0 < u / 10 := by omega
  have q9 : u % 10 < 10 := by omega
  have qb : u / 10 ≤ 1000000000000000000 := by omega
  generalize u / 10 = a at *
  generalize u % 10 = b at *
  have w1 : IntKind.i64.wrap (-(a : Int)) = -(a : Int) := IntWalk.i64_in _ (by omega)
  have w2 : IntKind.i64.wrap (-(b : Int)) = -(b : Int) := IntWalk.i64_in _ (by omega)
  have w3 : IntKind.i64.wrap (b : Int) = (b : Int) := IntWalk.i64_in _ (by omega)
  have e3 : -(-(b : Int)) = (b : Int) := by omega
  have q4 : (-(a : Int) == 0) = false := by simp; omega
  generalize hn : -(u : Int) = n at *
  have HN := Lib.hid hn
  clear hn H HD h10 hu
  go_enter Tryz.func88, Tryz.ntmps88
  go_wp2_with fail
  refine (H1.out _).mono ?_
  rintro e w1 ⟨rfl, hb1⟩
  go_wp2_with fail
  refine (H2.out _).mono ?_
  rintro e w2 ⟨rfl, hb2⟩
  have HB := Lib.hid (hb1.trans (hb2.mono hb1.size))
  clear hb1 hb2 H1 H2
  go_wp2_with fail
  go_ret
  rw [← HE.out]
  exact ⟨rfl, HB.out⟩
theorem Digits_neg (u : Nat) : 0 < u → u ≤ 9223372036854775808 → ∀ w : World,
    Calls Tryz.prog 88 #[.int .i64 (-(u : Int))] w fun e w' => e = .returned (.string (bs (highL ++ Lib.decDigits u))) ∧ Below w.heap.size w w' := by
  induction u using Nat.strongRecOn with
  | _ u ih =>
    intro h0 hu w
    by_cases h10 : u < 10
    · exact DigitsN_low u w h0 h10
    · exact DigitsN_step u w h10 hu (fun m h0 hm W => ih m hm h0 (by omega) W)
set_option maxHeartbeats 4000000 in
/-- A number's text. -/
theorem number_any (n : Int) (w : World) (hn : InI n) :
    Calls Tryz.prog 59 #[.int .i64 n] w fun e w' => e = .returned (.string (bs (Lib.itoa n))) ∧ Below w.heap.size w w' := by
  by_cases h0 : n < 0
  · obtain ⟨u, rfl⟩ : ∃ u : Nat, n = -(u : Int) := ⟨(-n).toNat, by omega⟩
    have hu : 0 < u ∧ u ≤ 9223372036854775808 := by have := hn.1; omega
    have HC := Lib.hid (Digits_neg u hu.1 hu.2)
    have hz := digits_len hu.2
    have HE : Hid ((⟨#[45]⟩ : ByteArray) ++ bs (Lib.decDigits u) = bs (Lib.itoa (-(u : Int)))) := Lib.hid (by
      rw [Lib.itoa_neg u (by omega)]
      show bs [45] ++ _ = _
      rw [bs_app]; rfl)
    have hx : (bs (highL ++ Lib.decDigits u)).extract 2 (bs (highL ++ Lib.decDigits u)).size = bs (Lib.decDigits u) := by rw [bs_size, bs_drop]; rfl
    have hx1 : (2 : Int) ≤ ((bs (highL ++ Lib.decDigits u)).size : Int) := by rw [bs_size, List.length_append]; show (2 : Int) ≤ (((2 + _ : Nat)) : Int); omega
    have hx3 : (bs (Lib.decDigits u)).size ≤ 21 := by rw [bs_size]; exact hz
    generalize bs (highL ++ Lib.decDigits u) = D1 at *
    generalize bs (Lib.decDigits u) = D2 at *
    clear hz hu
    generalize hn2 : -(u : Int) = m at *
    clear hn2
    go_enter Tryz.func59, Tryz.ntmps59
    go_wp2_with fail
    refine (HC.out _).mono ?_
    rintro e w1 ⟨rfl, hb1⟩
    have HB := Lib.hid hb1
    clear hb1
    go_wp2_with fail
    go_ret
    rw [← HE.out]
    exact ⟨rfl, HB.out⟩
  · obtain ⟨u, rfl⟩ : ∃ u : Nat, n = (u : Int) := ⟨n.toNat, by omega⟩
    have HC := Lib.hid (Digits_nat u (by have := hn.2; omega))
    rw [← Lib.itoa_nonneg] at HC
    go_enter Tryz.func59, Tryz.ntmps59
    go_wp2_with fail
    refine (HC.out _).mono ?_
    rintro e w1 ⟨rfl, hb1⟩
    have HB := Lib.hid hb1
    clear hb1
    go_wp2_with fail
    go_ret
    exact ⟨rfl, HB.out⟩
end Go.Proofs.YtamclieppbnpiaaGreatDoor
