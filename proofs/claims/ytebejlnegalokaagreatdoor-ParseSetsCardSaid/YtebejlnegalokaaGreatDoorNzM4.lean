/-
  XNdW, turned: what this seat needs of it.
-/
import Derived.Test.YtebejlnegalokaaGreatDoorProg
import Derived.Test.YtebejlnegalokaaGreatDoorReg
import Derived.WalkKit
import Derived.WalkSpells
import Derived.WalkLawsBesides
import Derived.Lib.Hide
import Derived.Lib.MinMax
import Derived.Deep.QuietTactic
import Derived.BigQuiet
import Derived.OwnWalk
import Derived.Deep.AppendLies
import Derived.KernelRfl
import Derived.WalkKit
import Derived.Test.YtebejlnegalokaaGreatDoorBytes
import Derived.Laws.OwnMore
import Derived.Test.YtebejlnegalokaaGreatDoorMapI
import Derived.Deep.RegionWith
import Derived.Deep.CutBlock
import Derived.Deep.OwnRows
import Derived.LaidEql
import Derived.Stop.Asserts
import Derived.RowKitTokens
import Derived.Shelf.Strings.Builder1
import Derived.Shelf.Small.Strs
import Derived.Shelf.Strings.BuilderF
import Derived.Shelf.Strings.BuilderK
import Derived.Shelf.Strconv.Itoa0
import Derived.Shelf.Strconv.Itoa1
import Derived.Shelf.LaysM
import Derived.Shelf.Strconv.Itoa2
import Derived.Shelf.Strconv.Itoa3
import Derived.Shelf.Strings.Search1
import Derived.Lib.FrozenHead2
import Derived.Laws.IdiomStrings
import Derived.Test.YtebejlnegalokaaGreatDoorPaLay
import Derived.Test.YtebejlnegalokaaGreatDoorNzM3
set_option linter.unusedSimpArgs false
set_option linter.unusedVariables false
namespace Go.Proofs.YtebejlnegalokaaGreatDoor.Nz
open Go.RowKit Go.Shelf
def escaped (c : UInt8) : Bool := c < 0x21 || c > 0x7e || c == 37 || c == 40 || c == 41 || c == 58
def wordOne (c : UInt8) : List UInt8 := if escaped c then [37, hexOf (c.toNat / 16), hexOf (c.toNat % 16)] else [c]
theorem wordOf_eq (s : List UInt8) : wordOf s = s.flatMap wordOne := by
  unfold wordOf wordOne escaped
  rfl
theorem wordOf_snoc (s : List UInt8) (c : UInt8) : wordOf (s ++ [c]) = wordOf s ++ wordOne c := by simp [wordOf_eq]
theorem wordOne_len (c : UInt8) : (wordOne c).length ≤ 3 := by unfold wordOne; split <;> simp
theorem wordOf_len (s : List UInt8) : (wordOf s).length ≤ 3 * s.length := by
  rw [wordOf_eq]
  induction s with
  | nil => simp
  | cons c s ih =>
    have := wordOne_len c
    rw [List.flatMap_cons, List.length_append, List.length_cons]
    omega
theorem byteCells_app (a b : List UInt8) : Lib.byteCells (a ++ b) = Lib.byteCells a ++ Lib.byteCells b := by simp [Lib.byteCells]
theorem row_byte {s : ByteArray} {c k : Nat} {x : UInt8} (h : s.data.toList[k]? = some x) : (bytesRow s c)[k]? = some (.int .u8 x.toNat) := by
  obtain ⟨hj, h2⟩ := List.getElem?_eq_some_iff.1 h
  have h3 := bytesRow_at s c k (by simpa using hj)
  rw [h3, ← h2]
  simp
abbrev hexB : ByteArray := ⟨#[48, 49, 50, 51, 52, 53, 54, 55, 56, 57, 97, 98, 99, 100, 101, 102]⟩
theorem hex_fin : ∀ n : Fin 16, hexB.data[n.val]? = some (hexOf n.val) := by decide
theorem hex_get (n : Nat) (h : n < 16) (m : Nat) (e : m = n) (hm : m < hexB.size) : hexB[m] = hexOf n := by
  subst e
  have := hex_fin ⟨m, h⟩
  simp only at this
  obtain ⟨h1, h2⟩ := Array.getElem?_eq_some_iff.1 this
  exact h2
set_option maxRecDepth 100000 in
theorem and_fin : ∀ n : Fin 256, bits BinOp.and IntKind.u8 ((n.val : Nat) : Int) 15 = (((n.val % 16 : Nat)) : Int) := by decide
theorem and_15 (n : Nat) (h : n < 256) : bits BinOp.and IntKind.u8 (n : Int) 15 = ((n % 16 : Nat) : Int) := and_fin ⟨n, h⟩
theorem esc_cells (a b : UInt8) : Lib.strCells ⟨#[37, a, b]⟩ = Lib.byteCells [37, a, b] := rfl
theorem three_cells (w : World) (a b : UInt8) : ∀ j (hj : j < [37, a, b].length), (w.alloc (.cells #[.int .u8 37, .int .u8 a.toNat, .int .u8 b.toNat] tU)).drew.cell? ((⟨w.heap.size, 0, none⟩ : Addr).add j) = some (.int .u8 ([37, a, b][j].toNat : Int)) := by
  intro j hj
  have h : (w.alloc (.cells #[.int .u8 37, .int .u8 a.toNat, .int .u8 b.toNat] tU)).drew.heap[w.heap.size]? = some (.cells #[.int .u8 37, .int .u8 a.toNat, .int .u8 b.toNat] tU (0, 0)) := heap_alloc_new w _
  rw [addr_add0]
  match j, hj with
  | 0, _ => rw [Lib.cell_of_heap h]; rfl
  | 1, _ => rw [Lib.cell_of_heap h]; rfl
  | 2, _ => rw [Lib.cell_of_heap h]; rfl
theorem builder_alloc {w : World} {B b : Nat} {bs : List Value} (h : Lib.IsBuilderF tB tU B b bs w) (o : Obj) : Lib.IsBuilderF tB tU B b bs (w.alloc o).drew := by
  have hx : ∀ p, Lib.BuilderAtF tB tU B b p bs w → Lib.BuilderAtF tB tU B b p bs (w.alloc o).drew := by
    rintro p ⟨hB, v, hb, hown, hne⟩
    exact ⟨hB, v, (Lib.alloc_old w _ b (Array.getElem?_eq_some_iff.1 hb).1).trans hb, hown.alloc _, hne⟩
  exact h.elim (fun h => .inl (hx _ h)) (fun h => .inr (hx _ h))
theorem marked_alloc {w : World} {k : Nat} {cs : Array Value} (h : Marked w k cs) (o : Obj) : Marked (w.alloc o).drew k cs := (Lib.alloc_old w _ k (Array.getElem?_eq_some_iff.1 h).1).trans h
theorem back_byte (x : UInt8) : (((x.toNat : Nat) : Int)).toNat.toUInt8 = x := by simp
theorem ix_yes (x : UInt8) (h : x = 37 ∨ x = 40 ∨ x = 41 ∨ x = 58) : 0 ≤ Lib.indexByte [37, 40, 41, 58] x := by
  rcases h with rfl | rfl | rfl | rfl <;> decide
theorem ix_no (x : UInt8) (h : ¬ (x = 37 ∨ x = 40 ∨ x = 41 ∨ x = 58)) : Lib.indexByte [37, 40, 41, 58] x = -1 := by
  have h1 : (37 == x) = false := by simp; intro e; exact h (.inl e.symm)
  have h2 : (40 == x) = false := by simp; intro e; exact h (.inr (.inl e.symm))
  have h3 : (41 == x) = false := by simp; intro e; exact h (.inr (.inr (.inl e.symm)))
  have h4 : (58 == x) = false := by simp; intro e; exact h (.inr (.inr (.inr e.symm)))
  simp [Lib.indexByte, h1, h2, h3, h4]
theorem esc_lo (x : UInt8) (h : x.toNat < 33) : escaped x = true := by simp [escaped]; exact .inl (.inl (.inl (.inl (.inl (UInt8.lt_iff_toNat_lt.2 h)))))
theorem esc_hi (x : UInt8) (h : 126 < x.toNat) : escaped x = true := by simp [escaped]; exact .inl (.inl (.inl (.inl (.inr (UInt8.lt_iff_toNat_lt.2 h)))))
theorem esc_of (x : UInt8) (h : x = 37 ∨ x = 40 ∨ x = 41 ∨ x = 58) : escaped x = true := by rcases h with rfl | rfl | rfl | rfl <;> decide
theorem esc_no (x : UInt8) (h1 : ¬ x.toNat < 33) (h2 : ¬ 126 < x.toNat) (h : ¬ (x = 37 ∨ x = 40 ∨ x = 41 ∨ x = 58)) : escaped x = false := by
  have a1 : ¬ x < 33 := fun e => h1 (UInt8.lt_iff_toNat_lt.1 e)
  have a2 : ¬ 126 < x := fun e => h2 (UInt8.lt_iff_toNat_lt.1 e)
  simp [escaped, a1, a2]
  exact ⟨⟨⟨fun e => h (.inl e), fun e => h (.inr (.inl e))⟩, fun e => h (.inr (.inr (.inl e)))⟩, fun e => h (.inr (.inr (.inr e)))⟩
set_option maxRecDepth 100000 in
set_option maxHeartbeats 4000000 in
theorem word_any (s : ByteArray) (w : World) (hs : s.size ≤ 1000000) :
    Calls Tryz.prog 65 #[.string s] w fun e w' => e = .returned (.string ⟨(wordOf s.data.toList).toArray⟩) ∧ Below w.heap.size w w' := by
  have hcv := fun W => run_bytes_of_string (P := Tryz.prog) W 9 136 5 s Tryz.underlying9 Tryz.underlying136 Tryz.underlying5
  go_enter Tryz.func65, Tryz.ntmps65
  go_wp2_with fail
  clear hcv
  obtain ⟨W0, hW0⟩ : ∃ W0, W0 = (w.alloc (.cells #[.pointer none, .slice none 0 0] tB)) := ⟨_, rfl⟩
  have hr0 : W0.heap[w.heap.size]? = some (.cells #[.pointer none, .slice none 0 0] tB (0, 0)) := by rw [hW0]; exact heap_alloc_new _ _
  have hB0 : Below w.heap.size w W0 := by rw [hW0]; exact (Below.refl _ _).alloc (Nat.le_refl _) _
  have hz0 : W0.heap.size = w.heap.size + 1 := by rw [hW0]; simp
  rw [← hW0]
  generalize hC : bytesRow s (grownCap W0 s.size 0 tU) = cs
  generalize hcc : grownCap W0 s.size 0 tU = cap
  have HC : Hid (∀ (k : Nat) (x : UInt8), s.data.toList[k]? = some x → cs[k]? = some (.int .u8 x.toNat)) := Lib.hid (fun k x h => by rw [← hC]; exact row_byte h)
  have hm : Marked (W0.alloc (.cells cs tU (cs.size, cs.size + 1))).drew (w.heap.size + 1) cs := by
    rw [← hz0]; exact heap_alloc_new W0 _
  have hb1 : Lib.IsBuilderF tB tU w.heap.size w.heap.size (Lib.byteCells (wordOf (s.data.toList.take 0))) (W0.alloc (.cells cs tU (cs.size, cs.size + 1))).drew := by
    refine .inl ⟨Nat.le_refl _, .slice none 0 0, ?_, ?_, by simp [Value.ownBlock]⟩
    · exact (((Below.refl W0.heap.size W0).alloc (Nat.le_refl _) _).block _ (by omega)).trans hr0
    · exact ⟨rfl, .inl ⟨rfl, rfl⟩⟩
  have hB1 : Below w.heap.size w (W0.alloc (.cells cs tU (cs.size, cs.size + 1))).drew := (hB0.alloc (by omega) _).drew
  generalize (W0.alloc (.cells cs tU (cs.size, cs.size + 1))).drew = W1 at *
  clear hr0 hB0 hz0 hW0
  generalize hL : s.data.toList = L at *
  have HLN : Hid (s.size = L.length) := Lib.hid (by rw [← hL]; rfl)
  go_loopw [9] (fun v wr => ∃ k : Nat, v = .int .i64 k ∧ k ≤ L.length ∧ Hid (Lib.IsBuilderF tB tU w.heap.size w.heap.size (Lib.byteCells (wordOf (L.take k))) wr) ∧ Hid (Marked wr (w.heap.size + 1) cs) ∧ Hid (Below w.heap.size w wr)) (fun v _ => L.length - (intOf v).toNat)
  case atStart => exact ⟨0, rfl, Nat.zero_le _, Lib.hid hb1, Lib.hid hm, Lib.hid hB1⟩
  case round =>
    clear hb1 hm hB1
    obtain ⟨k, rfl, hk, HI, HMk, HB⟩ := hrel
    by_cases hlt : k < L.length
    · have g := List.getElem?_eq_getElem hlt
      have HW : Hid (wordOf (L.take (k + 1)) = wordOf (L.take k) ++ wordOne L[k]) := Lib.hid (by rw [List.take_succ_eq_append_getElem hlt, wordOf_snoc])
      have hwl := wordOf_len (L.take k)
      rw [List.length_take] at hwl
      have e1 : wr.cell? ⟨w.heap.size + 1, k, none⟩ = some (.int .u8 L[k].toNat) := by
        have h := HMk.out
        unfold Marked at h
        simp [World.cell?, h, HC.out k _ g]
      generalize L[k] = x at *
      have hx := UInt8.toNat_lt x
      have hlt' : (k : Int) < (s.size : Int) := by rw [HLN.out]; omega
      have hk6 : k ≤ 1000000 := by omega
      have hwl6 : (wordOf (L.take k)).length ≤ 3000000 := by omega
      clear hwl
      have hsz := HB.out.size
      clear g
      have HE : Hid (escaped x = true → wordOne x = [37, hexOf (x.toNat / 16), hexOf (x.toNat % 16)]) := Lib.hid (fun h => by unfold wordOne; rw [if_pos h])
      have HNE : Hid (escaped x = false → wordOne x = [x]) := Lib.hid (fun h => by unfold wordOne; rw [h]; rfl)
      have HXB := Lib.hid (back_byte x)
      by_cases h1 : x.toNat < 33
      · have q1 : (x.toNat : Int) < 33 := by omega
        have w1 := HE.out (esc_lo x h1)
        have HW1 : Hid (wordOf (L.take (k + 1)) = wordOf (L.take k) ++ [37, hexOf (x.toNat / 16), hexOf (x.toNat % 16)]) := Lib.hid (by rw [HW.out, w1])
        have k0 : (0 : Int) ≤ (x.toNat : Int) / 16 := by omega
        have k1 : (x.toNat : Int) / 16 < 16 := by omega
        have k2 : (0 : Int) ≤ (x.toNat : Int) % 16 := by omega
        have k3 : (x.toNat : Int) % 16 < 16 := by omega
        have k4 := and_15 x.toNat hx
        have k5 := fun hm => hex_get (x.toNat / 16) (by omega) ((x.toNat : Int) / 16).toNat (by omega) hm
        have k6 := fun hm => hex_get (x.toNat % 16) (by omega) (x.toNat % 16) rfl hm
        have k7 := fun hm => hex_get (x.toNat % 16) (by omega) ((x.toNat : Int) % 16).toNat (by omega) hm
        clear HW w1
        generalize hexOf (x.toNat / 16) = a1 at *
        generalize hexOf (x.toNat % 16) = a2 at *
        have hcb := run_convert_bytes_back (P := Tryz.prog) (wr.alloc (.cells #[.int .u8 37, .int .u8 a1.toNat, .int .u8 a2.toNat] tU)).drew 136 9 5 ⟨wr.heap.size, 0, none⟩ 3 [37, a1, a2] Tryz.underlying136 Tryz.underlying5 Tryz.underlying9 (three_cells wr a1 a2)
        simp only [List.length_cons, List.length_nil, Nat.reduceAdd] at hcb
        have HI2 := Lib.hid (builder_alloc HI.out (.cells #[.int .u8 37, .int .u8 a1.toNat, .int .u8 a2.toNat] tU))
        have HM2 : Hid (Marked (wr.alloc (.cells #[.int .u8 37, .int .u8 a1.toNat, .int .u8 a2.toNat] tU)).drew (w.heap.size + 1) cs) := Lib.hid (marked_alloc HMk.out _)
        have HB2 : Hid (Below w.heap.size w (wr.alloc (.cells #[.int .u8 37, .int .u8 a1.toNat, .int .u8 a2.toNat] tU)).drew) := Lib.hid ((HB.out.alloc hsz _).drew)
        go_wp2
        refine wp_region_ord (S := fun _ => True) [0, 1, 2, 3, 4, 5] [6, 7, 8] (by kernel_rfl) (by kernel_rfl) (fun _ _ _ _ _ h => h) trivial ?_
        simp only [pick, List.filterMap_cons, List.filterMap_nil, List.getElem?_toArray, List.getElem?_cons_zero, List.getElem?_cons_succ]
        repeat (refine wpHead_step (v := ?_) rfl ?_ ?_; rotate_left; (focus (rintro w1 _; go_simp; try with_reducible rfl)); simp only [Act.put, List.setIfInBounds_toArray, List.set_cons_zero, List.set_cons_succ])
        refine wpHead_nil ?_
        refine wpTail_step rfl (fun K hK => ?_)
        go_wp2_with fail
        refine hK _ _ trivial ?_
        clear hK K
        try simp only [Act.put, List.setIfInBounds_toArray, List.set_cons_zero, List.set_cons_succ]
        refine wpTail_step rfl (fun K hK => ?_)
        go_wp2_with fail
        refine hK _ _ trivial ?_
        clear hK K
        try simp only [Act.put, List.setIfInBounds_toArray, List.set_cons_zero, List.set_cons_succ]
        refine wpTail_step rfl (fun K hK => ?_)
        go_wp2_with fail
        refine (writeString_any w.heap.size w.heap.size (Lib.byteCells (wordOf (L.take k))) ⟨#[37, a1, a2]⟩ _ HI2.out (by simp [Lib.byteCells, ByteArray.size]; omega) HB2.out.size).mono ?_
        rintro e w4 ⟨rfl, h4, hb4, hm4⟩
        go_wp2_with fail
        refine hK _ _ trivial ?_
        clear hK K
        try simp only [Act.put, List.setIfInBounds_toArray, List.set_cons_zero, List.set_cons_succ]
        refine wpTail_nil ?_
        rw [esc_cells, ← byteCells_app, ← HW1.out] at h4
        go_wp2_with fail
        go_roundw
        case rel => exact ⟨k + 1, by go_num, by omega, Lib.hid (.inr h4), Lib.hid (hm4 _ _ HM2.out), Lib.hid (HB2.out.trans hb4)⟩
        case measure => simp [intOf]; omega
      by_cases h2 : 126 < x.toNat
      · have q1 : ¬ (x.toNat : Int) < 33 := by omega
        have q2 : (126 : Int) < (x.toNat : Int) := by omega
        have w1 := HE.out (esc_hi x h2)
        have HW1 : Hid (wordOf (L.take (k + 1)) = wordOf (L.take k) ++ [37, hexOf (x.toNat / 16), hexOf (x.toNat % 16)]) := Lib.hid (by rw [HW.out, w1])
        have k0 : (0 : Int) ≤ (x.toNat : Int) / 16 := by omega
        have k1 : (x.toNat : Int) / 16 < 16 := by omega
        have k2 : (0 : Int) ≤ (x.toNat : Int) % 16 := by omega
        have k3 : (x.toNat : Int) % 16 < 16 := by omega
        have k4 := and_15 x.toNat hx
        have k5 := fun hm => hex_get (x.toNat / 16) (by omega) ((x.toNat : Int) / 16).toNat (by omega) hm
        have k6 := fun hm => hex_get (x.toNat % 16) (by omega) (x.toNat % 16) rfl hm
        have k7 := fun hm => hex_get (x.toNat % 16) (by omega) ((x.toNat : Int) % 16).toNat (by omega) hm
        clear HW w1
        generalize hexOf (x.toNat / 16) = a1 at *
        generalize hexOf (x.toNat % 16) = a2 at *
        have hcb := run_convert_bytes_back (P := Tryz.prog) (wr.alloc (.cells #[.int .u8 37, .int .u8 a1.toNat, .int .u8 a2.toNat] tU)).drew 136 9 5 ⟨wr.heap.size, 0, none⟩ 3 [37, a1, a2] Tryz.underlying136 Tryz.underlying5 Tryz.underlying9 (three_cells wr a1 a2)
        simp only [List.length_cons, List.length_nil, Nat.reduceAdd] at hcb
        have HI2 := Lib.hid (builder_alloc HI.out (.cells #[.int .u8 37, .int .u8 a1.toNat, .int .u8 a2.toNat] tU))
        have HM2 : Hid (Marked (wr.alloc (.cells #[.int .u8 37, .int .u8 a1.toNat, .int .u8 a2.toNat] tU)).drew (w.heap.size + 1) cs) := Lib.hid (marked_alloc HMk.out _)
        have HB2 : Hid (Below w.heap.size w (wr.alloc (.cells #[.int .u8 37, .int .u8 a1.toNat, .int .u8 a2.toNat] tU)).drew) := Lib.hid ((HB.out.alloc hsz _).drew)
        go_wp2
        refine wp_region_ord (S := fun _ => True) [0, 1, 2, 3, 4, 5] [6, 7, 8] (by kernel_rfl) (by kernel_rfl) (fun _ _ _ _ _ h => h) trivial ?_
        simp only [pick, List.filterMap_cons, List.filterMap_nil, List.getElem?_toArray, List.getElem?_cons_zero, List.getElem?_cons_succ]
        repeat (refine wpHead_step (v := ?_) rfl ?_ ?_; rotate_left; (focus (rintro w1 _; go_simp; try with_reducible rfl)); simp only [Act.put, List.setIfInBounds_toArray, List.set_cons_zero, List.set_cons_succ])
        refine wpHead_nil ?_
        refine wpTail_step rfl (fun K hK => ?_)
        go_wp2_with fail
        refine hK _ _ trivial ?_
        clear hK K
        try simp only [Act.put, List.setIfInBounds_toArray, List.set_cons_zero, List.set_cons_succ]
        refine wpTail_step rfl (fun K hK => ?_)
        go_wp2_with fail
        refine hK _ _ trivial ?_
        clear hK K
        try simp only [Act.put, List.setIfInBounds_toArray, List.set_cons_zero, List.set_cons_succ]
        refine wpTail_step rfl (fun K hK => ?_)
        go_wp2_with fail
        refine (writeString_any w.heap.size w.heap.size (Lib.byteCells (wordOf (L.take k))) ⟨#[37, a1, a2]⟩ _ HI2.out (by simp [Lib.byteCells, ByteArray.size]; omega) HB2.out.size).mono ?_
        rintro e w4 ⟨rfl, h4, hb4, hm4⟩
        go_wp2_with fail
        refine hK _ _ trivial ?_
        clear hK K
        try simp only [Act.put, List.setIfInBounds_toArray, List.set_cons_zero, List.set_cons_succ]
        refine wpTail_nil ?_
        rw [esc_cells, ← byteCells_app, ← HW1.out] at h4
        go_wp2_with fail
        go_roundw
        case rel => exact ⟨k + 1, by go_num, by omega, Lib.hid (.inr h4), Lib.hid (hm4 _ _ HM2.out), Lib.hid (HB2.out.trans hb4)⟩
        case measure => simp [intOf]; omega
      have q1 : ¬ (x.toNat : Int) < 33 := by omega
      have q2 : ¬ (126 : Int) < (x.toNat : Int) := by omega
      by_cases h3 : x = 37 ∨ x = 40 ∨ x = 41 ∨ x = 58
      · have q3 := ix_yes x h3
        have w1 := HE.out (esc_of x h3)
        clear h3
        have HW1 : Hid (wordOf (L.take (k + 1)) = wordOf (L.take k) ++ [37, hexOf (x.toNat / 16), hexOf (x.toNat % 16)]) := Lib.hid (by rw [HW.out, w1])
        have k0 : (0 : Int) ≤ (x.toNat : Int) / 16 := by omega
        have k1 : (x.toNat : Int) / 16 < 16 := by omega
        have k2 : (0 : Int) ≤ (x.toNat : Int) % 16 := by omega
        have k3 : (x.toNat : Int) % 16 < 16 := by omega
        have k4 := and_15 x.toNat hx
        have k5 := fun hm => hex_get (x.toNat / 16) (by omega) ((x.toNat : Int) / 16).toNat (by omega) hm
        have k6 := fun hm => hex_get (x.toNat % 16) (by omega) (x.toNat % 16) rfl hm
        have k7 := fun hm => hex_get (x.toNat % 16) (by omega) ((x.toNat : Int) % 16).toNat (by omega) hm
        clear HW w1
        generalize hr : Lib.indexByte [37, 40, 41, 58] x = r at *
        have HR := Lib.hid hr
        clear hr
        generalize hexOf (x.toNat / 16) = a1 at *
        generalize hexOf (x.toNat % 16) = a2 at *
        have hcb := run_convert_bytes_back (P := Tryz.prog) (wr.alloc (.cells #[.int .u8 37, .int .u8 a1.toNat, .int .u8 a2.toNat] tU)).drew 136 9 5 ⟨wr.heap.size, 0, none⟩ 3 [37, a1, a2] Tryz.underlying136 Tryz.underlying5 Tryz.underlying9 (three_cells wr a1 a2)
        simp only [List.length_cons, List.length_nil, Nat.reduceAdd] at hcb
        have HI2 := Lib.hid (builder_alloc HI.out (.cells #[.int .u8 37, .int .u8 a1.toNat, .int .u8 a2.toNat] tU))
        have HM2 : Hid (Marked (wr.alloc (.cells #[.int .u8 37, .int .u8 a1.toNat, .int .u8 a2.toNat] tU)).drew (w.heap.size + 1) cs) := Lib.hid (marked_alloc HMk.out _)
        have HB2 : Hid (Below w.heap.size w (wr.alloc (.cells #[.int .u8 37, .int .u8 a1.toNat, .int .u8 a2.toNat] tU)).drew) := Lib.hid ((HB.out.alloc hsz _).drew)
        go_wp2_with fail
        refine (Lay_strings_IndexByte _ _ _).mono ?_
        rintro e w9 ⟨rfl, rfl⟩
        rw [HXB.out, HR.out]
        go_wp2_with fail
        refine wp_region_ord (S := fun _ => True) [0, 1, 2, 3, 4, 5] [6, 7, 8] (by kernel_rfl) (by kernel_rfl) (fun _ _ _ _ _ h => h) trivial ?_
        simp only [pick, List.filterMap_cons, List.filterMap_nil, List.getElem?_toArray, List.getElem?_cons_zero, List.getElem?_cons_succ]
        repeat (refine wpHead_step (v := ?_) rfl ?_ ?_; rotate_left; (focus (rintro w1 _; go_simp; try with_reducible rfl)); simp only [Act.put, List.setIfInBounds_toArray, List.set_cons_zero, List.set_cons_succ])
        refine wpHead_nil ?_
        refine wpTail_step rfl (fun K hK => ?_)
        go_wp2_with fail
        refine hK _ _ trivial ?_
        clear hK K
        try simp only [Act.put, List.setIfInBounds_toArray, List.set_cons_zero, List.set_cons_succ]
        refine wpTail_step rfl (fun K hK => ?_)
        go_wp2_with fail
        refine hK _ _ trivial ?_
        clear hK K
        try simp only [Act.put, List.setIfInBounds_toArray, List.set_cons_zero, List.set_cons_succ]
        refine wpTail_step rfl (fun K hK => ?_)
        go_wp2_with fail
        refine (writeString_any w.heap.size w.heap.size (Lib.byteCells (wordOf (L.take k))) ⟨#[37, a1, a2]⟩ _ HI2.out (by simp [Lib.byteCells, ByteArray.size]; omega) HB2.out.size).mono ?_
        rintro e w4 ⟨rfl, h4, hb4, hm4⟩
        go_wp2_with fail
        refine hK _ _ trivial ?_
        clear hK K
        try simp only [Act.put, List.setIfInBounds_toArray, List.set_cons_zero, List.set_cons_succ]
        refine wpTail_nil ?_
        rw [esc_cells, ← byteCells_app, ← HW1.out] at h4
        go_wp2_with fail
        go_roundw
        case rel => exact ⟨k + 1, by go_num, by omega, Lib.hid (.inr h4), Lib.hid (hm4 _ _ HM2.out), Lib.hid (HB2.out.trans hb4)⟩
        case measure => simp [intOf]; omega
      · have hr := ix_no x h3
        have HR := Lib.hid hr
        have w1 := HNE.out (esc_no x h1 h2 h3)
        have HW1 : Hid (wordOf (L.take (k + 1)) = wordOf (L.take k) ++ [x]) := Lib.hid (by rw [HW.out, w1])
        clear h3 hr w1 HW
        go_wp2_with fail
        refine (Lay_strings_IndexByte _ _ _).mono ?_
        rintro e w9 ⟨rfl, rfl⟩
        rw [HXB.out, HR.out]
        go_wp2_with fail
        refine (writeByte_any w.heap.size w.heap.size (Lib.byteCells (wordOf (L.take k))) x.toNat _ HI.out (by simp [Lib.byteCells]; omega) HB.out.size).mono ?_
        rintro e w4 ⟨rfl, h4, hb4, hm4⟩
        rw [show ([Value.int .u8 (x.toNat : Int)] : List Value) = Lib.byteCells [x] from rfl, ← byteCells_app, ← HW1.out] at h4
        go_wp2_with fail
        go_roundw
        case rel => exact ⟨k + 1, by go_num, by omega, Lib.hid (.inr h4), Lib.hid (hm4 _ _ HMk.out), Lib.hid (HB.out.trans hb4)⟩
        case measure => simp [intOf]; omega
    · obtain rfl : k = L.length := by omega
      have hlt' : ¬ ((L.length : Int) < (s.size : Int)) := by rw [HLN.out]; omega
      have HI2 : Hid (Lib.IsBuilderF tB tU w.heap.size w.heap.size (Lib.byteCells (wordOf L)) wr) := Lib.hid (by have h := HI.out; rwa [List.take_of_length_le (Nat.le_refl _)] at h)
      go_wp2_with fail
      refine (Lay_Builder_String_any_f w.heap.size w.heap.size (wordOf L) _ HI2.out HB.out.size).mono ?_
      rintro e w4 ⟨rfl, _, hb4⟩
      go_wp2_with fail
      go_ret
      rw [hL]
      exact ⟨rfl, HB.out.trans hb4⟩
end Go.Proofs.YtebejlnegalokaaGreatDoor.Nz
/-
  XNdX, turned: what this seat needs of it.
-/
namespace Go.Proofs.YtebejlnegalokaaGreatDoor.Nz
open Go.RowKit Go.Shelf
theorem dig_fin : ∀ n : Fin 15, 1 ≤ n.val → digitsOf (n.val : Int) = if 9 < n.val then [49, UInt8.ofNat (48 + n.val % 10)] else [UInt8.ofNat (48 + n.val)] := by decide
theorem dec_digits (n : Nat) (h1 : 1 ≤ n) (h2 : n ≤ 14) : Lib.decDigits n = digitsOf (n : Int) := by
  have h := dig_fin ⟨n, by omega⟩ h1
  simp only at h
  rw [h]
  by_cases hn : n < 10
  · rw [Lib.decDigits, dif_pos hn, if_neg (by omega)]
  · rw [Lib.decDigits, dif_neg hn, Lib.decDigits, dif_pos (by omega), if_pos (by omega), show n / 10 = 1 by omega]
    rfl
theorem itoa_any (n : Nat) (h1 : 1 ≤ n) (h2 : n ≤ 14) (w : World) :
    Calls Tryz.prog 64 #[.int .i64 n] w fun e w' => e = .returned (.string ⟨(digitsOf (n : Int)).toArray⟩) ∧ w' = w := by
  have h := Lay_strconv_Itoa_small n (by omega) w
  rw [dec_digits n h1 h2] at h
  exact h
end Go.Proofs.YtebejlnegalokaaGreatDoor.Nz
/-
  XNdL, turned: what this seat needs of it.
-/
namespace Go.Proofs.YtebejlnegalokaaGreatDoor.Nz
open Go.RowKit Go.Shelf
theorem nodes_kid {t : List Nd} (h : nodesOk 0 t = true) {i : Nat} {k : Int} (hi : i < t.length) (hk : k ∈ (nodeAt t i).kids) : 0 ≤ k ∧ k < (i : Int) := by
  have h1 := List.getElem?_eq_getElem hi
  have h2 := (nodesOk_at h h1).1
  rw [nodeAt_some h1] at hk
  have h3 := kidsOk_mem h2 k hk
  omega
theorem flat_congr {α β : Type} {l : List α} {f g : α → List β} (h : ∀ x ∈ l, f x = g x) : l.flatMap f = l.flatMap g := by
  induction l with
  | nil => rfl
  | cons x l ih => rw [List.flatMap_cons, List.flatMap_cons, h x List.mem_cons_self, ih (fun y hy => h y (List.mem_cons_of_mem _ hy))]
theorem showF_more {t : List Nd} (h : nodesOk 0 t = true) : ∀ (n f i : Nat), i < n → i < f → i < t.length → showF t f i = showAt t i
  | 0, _, i, h1, _, _ => by omega
  | n + 1, f, i, h1, h2, h3 => by
    obtain ⟨f, rfl⟩ : ∃ f', f = f' + 1 := ⟨f - 1, by omega⟩
    unfold showAt showF
    have hc : (nodeAt t i).kids.flatMap (fun k => 32 :: showF t f k.toNat) = (nodeAt t i).kids.flatMap (fun k => 32 :: showF t i k.toNat) := flat_congr (fun k hk => by
      have := nodes_kid h h3 hk
      rw [showF_more h n f k.toNat (by omega) (by omega) (by omega), showF_more h n i k.toNat (by omega) (by omega) (by omega)])
    simp only [hc]
theorem showAt_eq {t : List Nd} (h : nodesOk 0 t = true) {i : Nat} (hi : i < t.length) {x : Nd} (hx : t[i]? = some x) : showAt t i =
    if x.kids = [] then digitsOf x.kind ++ 58 :: wordOf x.text.data.toList else 40 :: ((digitsOf x.kind ++ 58 :: wordOf x.text.data.toList) ++ x.kids.flatMap (fun k => 32 :: showAt t k.toNat) ++ [41]) := by
  have hc : (nodeAt t i).kids.flatMap (fun k => 32 :: showF t i k.toNat) = (nodeAt t i).kids.flatMap (fun k => 32 :: showAt t k.toNat) := flat_congr (fun k hk => by
    have := nodes_kid h hi hk
    rw [showF_more h i i k.toNat (by omega) (by omega) (by omega)])
  have h9 : showAt t i = showF t (i + 1) i := rfl
  rw [h9]
  unfold showF
  rw [nodeAt_some hx] at hc ⊢
  simp only [hc]
theorem kind_range {x : Nd} (h : formOk x = true) : ∃ n : Nat, x.kind = (n : Int) ∧ 1 ≤ n ∧ n ≤ 14 := by
  have h1 : formAt x.kind ≠ none := by
    intro e
    unfold formOk at h
    rw [e] at h
    cases h
  by_cases hr : 1 ≤ x.kind ∧ x.kind ≤ 14
  · exact ⟨x.kind.toNat, by omega, by omega, by omega⟩
  · exfalso
    apply h1
    unfold formAt
    repeat rw [if_neg (by omega)]
/-- Bytes as a text. -/
def strB (l : List UInt8) : ByteArray := ⟨l.toArray⟩
theorem strB_size (l : List UInt8) : (strB l).size = l.length := rfl
def sumBy (f : Nat → Nat) : Nat → Nat
  | 0 => 0
  | m + 1 => sumBy f m + f m
theorem sumBy_le {f g : Nat → Nat} : ∀ (m : Nat), (∀ j, j < m → f j ≤ g j) → sumBy f m ≤ sumBy g m
  | 0, _ => Nat.le_refl _
  | m + 1, h => Nat.add_le_add (sumBy_le m (fun j hj => h j (by omega))) (h m (by omega))
theorem sumBy_const (c : Nat) : ∀ (m : Nat), sumBy (fun _ => c) m = m * c
  | 0 => by simp [sumBy]
  | m + 1 => by rw [sumBy, sumBy_const c m, Nat.succ_mul]
theorem sumBy_add (f g : Nat → Nat) : ∀ (m : Nat), sumBy (fun j => f j + g j) m = sumBy f m + sumBy g m
  | 0 => rfl
  | m + 1 => by simp only [sumBy, sumBy_add f g m]; omega
theorem sumBy_congr {f g : Nat → Nat} : ∀ (m : Nat), (∀ j, j < m → f j = g j) → sumBy f m = sumBy g m
  | 0, _ => rfl
  | m + 1, h => by rw [sumBy, sumBy, sumBy_congr m (fun j hj => h j (by omega)), h m (by omega)]
theorem sumBy_pick (k v : Nat) : ∀ (m : Nat), sumBy (fun j => if j = k then v else 0) m = if k < m then v else 0
  | 0 => by simp [sumBy]
  | m + 1 => by
    rw [sumBy, sumBy_pick k v m]
    by_cases h : m = k
    · subst h; simp
    · rw [if_neg h]
      by_cases h2 : k < m
      · rw [if_pos h2, if_pos (by omega)]; omega
      · rw [if_neg h2, if_neg (by omega)]
theorem sum_list (f : Nat → Nat) (m : Nat) : ∀ (L : List Int), (∀ k ∈ L, 0 ≤ k ∧ k < (m : Int)) → (L.map fun k => f k.toNat).sum = sumBy (fun j => L.count (j : Int) * f j) m
  | [], _ => by
    have e : sumBy (fun j => List.count (j : Int) ([] : List Int) * f j) m = sumBy (fun _ => 0) m := sumBy_congr m (fun j _ => by rw [List.count_nil, Nat.zero_mul])
    rw [e, sumBy_const]
    rfl
  | k :: L, h => by
    rw [List.map_cons, List.sum_cons, sum_list f m L (fun x hx => h x (List.mem_cons_of_mem _ hx))]
    obtain ⟨h0, h1⟩ := h k List.mem_cons_self
    have e : sumBy (fun j => (k :: L).count (j : Int) * f j) m = sumBy (fun j => (if j = k.toNat then f k.toNat else 0) + L.count (j : Int) * f j) m := sumBy_congr m (fun j _ => by
      rw [List.count_cons]
      by_cases hj : j = k.toNat
      · have : k = (j : Int) := by omega
        subst hj
        rw [if_pos (beq_iff_eq.2 this), if_pos rfl, Nat.add_mul, Nat.one_mul, Nat.add_comm]
      · have : ¬ k = (j : Int) := by omega
        rw [if_neg (fun e => this (beq_iff_eq.1 e)), if_neg hj, Nat.add_zero, Nat.zero_add])
    rw [e, sumBy_add, sumBy_pick, if_pos (by omega)]
theorem sumBy_free {c f : Nat → Nat} {i : Nat} : ∀ (m : Nat), i < m → (∀ j, j < m → c j ≤ 1) → c i = 0 → sumBy (fun j => c j * f j) m + f i ≤ sumBy f m
  | 0, h, _, _ => by omega
  | m + 1, h, hc, h0 => by
    simp only [sumBy]
    by_cases hm : i = m
    · subst hm
      rw [h0]
      have : sumBy (fun j => c j * f j) i ≤ sumBy f i := sumBy_le i (fun j hj => by
        have := hc j (by omega)
        calc c j * f j ≤ 1 * f j := Nat.mul_le_mul_right _ this
          _ = f j := Nat.one_mul _)
      omega
    · have h1 := sumBy_free m (by omega) (fun j hj => hc j (by omega)) h0 (f := f)
      have h2 : c m * f m ≤ f m := by
        have := hc m (by omega)
        calc c m * f m ≤ 1 * f m := Nat.mul_le_mul_right _ this
          _ = f m := Nat.one_mul _
      omega
/-- What a node's own show has, at most. -/
def ownLen (x : Nd) : Nat := 5 + (wordOf x.text.data.toList).length + x.kids.length
theorem digits_len (n : Int) : (digitsOf n).length ≤ 2 := by
  unfold digitsOf
  split
  · exact Nat.le_refl 2
  · exact Nat.le_succ 1
theorem flat_len (f : Int → List UInt8) : ∀ (L : List Int), (L.flatMap fun k => 32 :: f k).length = L.length + (L.map fun k => (f k).length).sum
  | [] => rfl
  | k :: L => by rw [List.flatMap_cons, List.length_append, flat_len f L, List.map_cons, List.sum_cons, List.length_cons, List.length_cons]; omega
theorem showAt_len {t : List Nd} (h : nodesOk 0 t = true) {i : Nat} (hi : i < t.length) {x : Nd} (hx : t[i]? = some x) : (showAt t i).length ≤ ownLen x + (x.kids.map fun k => (showAt t k.toNat).length).sum := by
  rw [showAt_eq h hi hx]
  have := digits_len x.kind
  unfold ownLen
  split
  · simp only [List.length_append, List.length_cons]
    omega
  · simp only [List.length_cons, List.length_append, flat_len, List.length_nil]
    omega
theorem kidsAll_one (x : Nd) : kidsAll [x] = x.kids := by simp [kidsAll]
theorem shows_sum {t : List Nd} (h : nodesOk 0 t = true) : ∀ (m : Nat), m ≤ t.length → sumBy (fun j => (showAt t j).length) m ≤ ((kidsAll (t.take m)).map fun k => (showAt t k.toNat).length).sum + sumBy (fun j => ownLen (nodeAt t j)) m
  | 0, _ => by simp [sumBy]
  | m + 1, hm => by
    have hlt : m < t.length := by omega
    have g := List.getElem?_eq_getElem hlt
    have h1 := shows_sum h m (by omega)
    have h2 := showAt_len h hlt g
    rw [take_one g, kidsAll_app, kidsAll_one, List.map_append, List.sum_append]
    simp only [sumBy]
    rw [nodeAt_some g]
    omega
theorem show_small {t : List Nd} (hr : rightN t = true) (hI : IntN t) {i : Nat} (hi : i < t.length) : (showAt t i).length ≤ 1204000000 := by
  obtain ⟨r1, r2, hok, hc⟩ := rightN_parts hr
  have h1 := shows_sum hok (i + 1) (by omega)
  have hmem : ∀ k ∈ kidsAll (t.take (i + 1)), 0 ≤ k ∧ k < (i : Int) := by
    intro k hk
    simp only [kidsAll, List.mem_flatMap] at hk
    obtain ⟨x, hx, hk⟩ := hk
    obtain ⟨j, hj⟩ := List.getElem?_of_mem hx
    have hj1 : j < i + 1 := by
      rcases Nat.lt_or_ge j (i + 1) with h | h
      · exact h
      · rw [List.getElem?_take, if_neg (by omega)] at hj; cases hj
    rw [List.getElem?_take, if_pos hj1] at hj
    have := nodes_kid hok (i := j) (k := k) (by omega) (by rw [nodeAt_some hj]; exact hk)
    omega
  rw [sum_list (fun j => (showAt t j).length) (i + 1) _ (fun k hk => by have := hmem k hk; omega)] at h1
  have h2 := sumBy_free (c := fun j => (kidsAll (t.take (i + 1))).count (j : Int)) (f := fun j => (showAt t j).length) (i := i) (i + 1) (by omega)
    (fun j hj => by
      by_cases hji : j = i
      · subst hji
        show List.count (j : Int) (kidsAll (t.take (j + 1))) ≤ 1
        rw [List.count_eq_zero_of_not_mem (fun hm => by have := hmem _ hm; omega)]
        omega
      · have h3 := hc j (by omega)
        have h4 : kidsAll t = kidsAll (t.take (i + 1)) ++ kidsAll (t.drop (i + 1)) := by rw [← kidsAll_app, List.take_append_drop]
        rw [h4, List.count_append] at h3
        show List.count (j : Int) (kidsAll (t.take (i + 1))) ≤ 1
        omega)
    (List.count_eq_zero_of_not_mem (fun hm => by have := hmem _ hm; omega))
  have h3 : sumBy (fun j => ownLen (nodeAt t j)) (i + 1) ≤ sumBy (fun _ => 3001005) (i + 1) := sumBy_le _ (fun j hj => by
    have hlt : j < t.length := by omega
    rw [nodeAt_some (List.getElem?_eq_getElem hlt)]
    obtain ⟨_, z2, z3, _⟩ := hI _ (List.getElem_mem hlt)
    have z4 := wordOf_len (t[j]).text.data.toList
    rw [bytes_len] at z4
    unfold ownLen
    omega)
  rw [sumBy_const] at h3
  have h4 : (i + 1) * 3001005 ≤ 400 * 3001005 := Nat.mul_le_mul_right _ (by omega)
  omega
end Go.Proofs.YtebejlnegalokaaGreatDoor.Nz
/-
  XNdK, turned: what this seat needs of it.
-/
namespace Go.Proofs.YtebejlnegalokaaGreatDoor.Nz
open Go.RowKit Go.Shelf
/-- A tree at work lies at block T. -/
def TreeAt (w : World) (T : Nat) (A : Option Addr) (n c : Nat) : Prop := w.heap[T]? = some (.cells #[.slice A n c] 63 (0, 0))
theorem TreeAt.below {w w' : World} {T : Nat} {A : Option Addr} {n c : Nat} (h : TreeAt w T A n c) (hb : Below w.heap.size w w') : TreeAt w' T A n c := (hb.block T (Array.getElem?_eq_some_iff.1 h).1).trans h
theorem itoaS (n : Nat) (h1 : 1 ≤ n) (h2 : n ≤ 14) (w : World) : Calls Tryz.prog 64 #[.int .i64 n] w fun e w' => e = .returned (.string (strB (digitsOf (n : Int)))) ∧ w' = w := itoa_any n h1 h2 w
theorem wordS (s : ByteArray) (w : World) (hs : s.size ≤ 1000000) : Calls Tryz.prog 65 #[.string s] w fun e w' => e = .returned (.string (strB (wordOf s.data.toList))) ∧ Below w.heap.size w w' := word_any s w hs
theorem head_text (dg wl : List UInt8) : strB dg ++ ⟨#[58]⟩ ++ strB wl = strB (dg ++ 58 :: wl) := bytes_eq (by rw [bytes_app, bytes_app]; simp [strB])
theorem next_text (a r : List UInt8) : strB a ++ (⟨#[32]⟩ ++ strB r) = strB (a ++ 32 :: r) := bytes_eq (by rw [bytes_app, bytes_app]; simp [strB])
theorem end_text (a : List UInt8) : ⟨#[40]⟩ ++ strB a ++ ⟨#[41]⟩ = strB (40 :: (a ++ [41])) := bytes_eq (by rw [bytes_app, bytes_app]; simp [strB])
set_option maxRecDepth 100000 in
set_option maxHeartbeats 8000000 in
theorem show_any (t : List Nd) (hr : rightN t = true) (hI : IntN t) : ∀ (m i : Nat), i < m → i < t.length → ∀ (T : Nat) (A : Option Addr) (c : Nat) (w : World), TreeAt w T A t.length c → HoldsN w A t →
    Calls Tryz.prog 44 #[.pointer (some ⟨T, 0, none⟩), .int .i64 i] w fun e w' => e = .returned (.string (strB (showAt t i))) ∧ Below w.heap.size w w' := by
  intro m
  induction m with
  | zero => intro i h1; omega
  | succ m ih =>
    intro i h1 hi T A c w hT hH
    have hok := (rightN_parts hr).2.2.1
    have hsm := show_small hr hI hi
    have HR := Lib.hid ih
    have g := List.getElem?_eq_getElem hi
    have hmem := List.getElem_mem hi
    have HS := Lib.hid (showAt_eq hok hi g)
    have hkd := fun k hk => nodes_kid hok hi (k := k) hk
    rw [nodeAt_some g] at hkd
    obtain ⟨hko, hfo⟩ := nodesOk_at hok g
    obtain ⟨kd, hkind, hk1, hk2⟩ := kind_range hfo
    obtain ⟨b, off, rfl, c0, c1, B, c2, c3, hK, hc⟩ := hH i _ g
    obtain ⟨z1, z2, z3, z4⟩ := hI _ hmem
    generalize t[i] = x at *
    rw [hkind] at c0
    have HHN := Lib.hid hH
    have HTT := Lib.hid hT
    have HKx := Lib.hid hK
    have HKD := Lib.hid hkd
    have t0 : w.cell? ⟨T, 0, none⟩ = some (.slice (some ⟨b, off, none⟩) t.length c) := by unfold TreeAt at hT; simp [World.cell?, hT]
    have HKIND := Lib.hid hkind
    have z9 := digits_len (kd : Int)
    have z8 := wordOf_len x.text.data.toList
    rw [bytes_len] at z8
    rw [hkind] at HS
    clear ih
    clear hH hT hK hkd hko hfo hkind g hmem z1 z4 hI hok hr
    go_enter Tryz.func44, Tryz.ntmps44
    go_wp2_with fail
    have hB1 : Below w.heap.size w (w.alloc (.cells #[.int .i64 kd, .string x.text, .slice B x.kids.length c2] 49)) := (Below.refl _ _).alloc (Nat.le_refl _) _
    have hrow : (w.alloc (.cells #[.int .i64 kd, .string x.text, .slice B x.kids.length c2] 49)).heap[w.heap.size]? = some (.cells #[.int .i64 kd, .string x.text, .slice B x.kids.length c2] 49 (0, 0)) := heap_alloc_new _ _
    generalize (w.alloc (.cells #[.int .i64 kd, .string x.text, .slice B x.kids.length c2] 49)) = W1 at *
    generalize hPP : w.heap.size = P at *
    have e0 : W1.cell? ⟨P, 0, none⟩ = some (.int .i64 kd) := by simp [World.cell?, hrow]
    have e1 : W1.cell? ⟨P, 1, none⟩ = some (.string x.text) := by simp [World.cell?, hrow]
    have hP1 : P < W1.heap.size := (Array.getElem?_eq_some_iff.1 hrow).1
    have HIT := Lib.hid (fun W => itoaS kd hk1 hk2 W)
    have HWD := Lib.hid (fun W => wordS x.text W z3)
    generalize digitsOf (kd : Int) = dg at *
    generalize wordOf x.text.data.toList = wl at *
    have z7 : (strB dg).size ≤ 2 := z9
    have z6 : (strB wl).size ≤ 3000000 := by rw [strB_size]; omega
    have n1 : ¬ (9223372036854775807 < (strB dg).size + 1) := by omega
    have n2 : ¬ (9223372036854775807 < (strB dg).size + 1 + (strB wl).size) := by omega
    refine wp_region_four (S := fun w' => w'.cell? ⟨P, 0, none⟩ = some (.int .i64 kd) ∧ w'.cell? ⟨P, 1, none⟩ = some (.string x.text)) [0, 1, 4, 5] [2] [3] [6, 7, 8] (by kernel_rfl) (by kernel_rfl) (fun _ _ _ _ _ h => h) ⟨e0, e1⟩ ?_
    simp only [pick, List.filterMap_cons, List.filterMap_nil, List.getElem?_toArray, List.getElem?_cons_zero, List.getElem?_cons_succ]
    repeat (refine wpHead_step (v := ?_) rfl ?_ ?_; rotate_left; (focus (rintro w1 ⟨e0, e1⟩; go_simp; try with_reducible rfl)); simp only [Act.put, List.setIfInBounds_toArray, List.set_cons_zero, List.set_cons_succ])
    refine wpHead_nil ?_
    refine wpTailK_step rfl (fun K hK => ?_)
    go_wp2_with fail
    refine (HIT.out _).mono ?_
    rintro e W2 ⟨rfl, rfl⟩
    go_wp2_with fail
    refine hK _ _ ⟨e0, e1⟩ ?_
    clear hK K
    try simp only [Act.put, List.setIfInBounds_toArray, List.set_cons_zero, List.set_cons_succ]
    refine wpTailK_nil ?_
    repeat (refine wpHead_step (v := ?_) rfl ?_ ?_; rotate_left; (focus (rintro w1 ⟨e0, e1⟩; go_simp; try with_reducible rfl)); simp only [Act.put, List.setIfInBounds_toArray, List.set_cons_zero, List.set_cons_succ])
    refine wpHead_nil ?_
    refine wpTail_step rfl (fun K hK => ?_)
    go_wp2_with fail
    refine (HWD.out _).mono ?_
    rintro e W2 ⟨rfl, hb2⟩
    have hrow2 := (hb2.block P hP1).trans hrow
    have HB2 : Hid (Below P w W2) := Lib.hid (hB1.drew.trans (hb2.mono (Nat.le_of_lt hP1)))
    clear e0 e1 hrow hB1 hb2 hP1
    have e0 : W2.cell? ⟨P, 0, none⟩ = some (.int .i64 kd) := by simp [World.cell?, hrow2]
    have e1 : W2.cell? ⟨P, 1, none⟩ = some (.string x.text) := by simp [World.cell?, hrow2]
    have e2 : W2.cell? ⟨P, 2, none⟩ = some (.slice B x.kids.length c2) := by simp [World.cell?, hrow2]
    go_wp2_with fail
    refine hK _ _ ⟨e0, e1⟩ ?_
    clear hK K
    try simp only [Act.put, List.setIfInBounds_toArray, List.set_cons_zero, List.set_cons_succ]
    refine wpTail_step rfl (fun K hK => ?_)
    go_wp2_with fail
    refine hK _ _ ⟨e0, e1⟩ ?_
    clear hK K
    try simp only [Act.put, List.setIfInBounds_toArray, List.set_cons_zero, List.set_cons_succ]
    refine wpTail_step rfl (fun K hK => ?_)
    go_wp2_with fail
    refine hK _ _ ⟨e0, e1⟩ ?_
    clear hK K
    try simp only [Act.put, List.setIfInBounds_toArray, List.set_cons_zero, List.set_cons_succ]
    refine wpTail_nil ?_
    go_wp2_with fail
    rw [head_text]
    have hpw : P ≤ W2.heap.size := by rw [← hPP]; exact HB2.out.size
    have hPlt : P < W2.heap.size := (Array.getElem?_eq_some_iff.1 hrow2).1
    have HN0 : Hid (x.kids.flatMap (fun k => 32 :: showAt t k.toNat) = x.kids.flatMap (fun k => 32 :: showAt t k.toNat)) := Lib.hid rfl
    clear n1 n2 z6 z7 z8 z9 HIT HWD e0 e1 e2
    have HSM : Hid (x.kids ≠ [] → (dg ++ 58 :: wl).length + (x.kids.flatMap (fun k => 32 :: showAt t k.toNat)).length + 2 ≤ 1204000000) := Lib.hid (fun hne => by
      have h := hsm
      rw [HS.out, if_neg hne] at h
      simp only [List.length_cons, List.length_append, List.length_nil] at h ⊢
      omega)
    have HS1 : Hid (x.kids = [] → showAt t i = dg ++ 58 :: wl) := Lib.hid (fun e => by rw [HS.out, if_pos e])
    have HS2 : Hid (x.kids ≠ [] → showAt t i = 40 :: ((dg ++ 58 :: wl) ++ x.kids.flatMap (fun k => 32 :: showAt t k.toNat) ++ [41])) := Lib.hid (fun e => by rw [HS.out, if_neg e])
    clear HS hsm
    generalize dg ++ 58 :: wl = pre at *
    generalize hkids : x.kids = ks at *
    clear hkids HN0
    go_loopw [6, 27] (fun s v wr => ∃ q : Nat, v = .int .i64 q ∧ q ≤ ks.length ∧ s = .string (strB (pre ++ (ks.take q).flatMap (fun k => 32 :: showAt t k.toNat))) ∧ wr.heap[P]? = some (.cells #[.int .i64 kd, .string x.text, .slice B ks.length c2] 49 (0, 0)) ∧ Hid (Below P w wr)) (fun _ v _ => ks.length - (intOf v).toNat)
    case atStart => exact ⟨0, rfl, Nat.zero_le _, by rw [List.take_zero, List.flatMap_nil, List.append_nil], hrow2, HB2⟩
    case round =>
      clear hrow2 HB2 hpw hPlt
      obtain ⟨q, rfl, hq, rfl, hrow, HB⟩ := hrel
      by_cases hlt : q < ks.length
      · have g := List.getElem?_eq_getElem hlt
        have hmem := List.getElem_mem hlt
        obtain ⟨hk0, hk9⟩ := HKD.out _ hmem
        have HFL : Hid ((ks.take (q + 1)).flatMap (fun k => 32 :: showAt t k.toNat) = (ks.take q).flatMap (fun k => 32 :: showAt t k.toNat) ++ 32 :: showAt t ks[q].toNat) := Lib.hid (by rw [List.take_succ_eq_append_getElem hlt, List.flatMap_append]; simp)
        have hle : ((ks.take (q + 1)).flatMap (fun k => 32 :: showAt t k.toNat)).length ≤ (ks.flatMap (fun k => 32 :: showAt t k.toNat)).length := by
          have e : ks.flatMap (fun k => 32 :: showAt t k.toNat) = (ks.take (q + 1)).flatMap (fun k => 32 :: showAt t k.toNat) ++ (ks.drop (q + 1)).flatMap (fun k => 32 :: showAt t k.toNat) := by rw [← List.flatMap_append, List.take_append_drop]
          rw [e, List.length_append]
          omega
        have hsm := HSM.out (fun e => by rw [e] at hlt; simp at hlt)
        obtain ⟨b2, off2, rfl, f0⟩ := HKx.out q _ g
        have f1 := (HB.out.cell (p := ⟨b2, _, none⟩) (by rw [← hPP]; exact cell_lt f0)).trans f0
        have HX := Lib.hid (HR.out ks[q].toNat (by omega) (by omega) T (some ⟨b, off, none⟩) c wr (HTT.out.below (by rw [hPP]; exact HB.out)) (HHN.out.below (by rw [hPP]; exact HB.out)))
        have hkk : ((ks[q].toNat : Nat) : Int) = ks[q] := by omega
        rw [hkk] at HX
        rw [HFL.out] at hle
        generalize ks[q] = k at *
        generalize showAt t k.toNat = r at *
        have HFL2 : Hid (pre ++ (ks.take (q + 1)).flatMap (fun k => 32 :: showAt t k.toNat) = (pre ++ (ks.take q).flatMap (fun k => 32 :: showAt t k.toNat)) ++ 32 :: r) := Lib.hid (by rw [HFL.out, List.append_assoc])
        generalize ks.flatMap (fun k => 32 :: showAt t k.toNat) = fl at *
        generalize (ks.take q).flatMap (fun k => 32 :: showAt t k.toNat) = fq at *
        simp only [List.length_append, List.length_cons] at hle
        have n3 : ¬ (9223372036854775807 < 1 + (strB r).size) := by rw [strB_size]; omega
        have n4 : ¬ (9223372036854775807 < (strB (pre ++ fq)).size + (1 + (strB r).size)) := by rw [strB_size, strB_size, List.length_append]; omega
        clear f0 g hmem hkk HFL
        go_wp2_with fail
        refine HX.out.mono ?_
        rintro e W3 ⟨rfl, hb3⟩
        have hrow3 := (hb3.block P (Array.getElem?_eq_some_iff.1 hrow).1).trans hrow
        have HB3 : Hid (Below P w W3) := Lib.hid (HB.out.trans (hb3.mono (by rw [← hPP]; exact HB.out.size)))
        go_wp2_with fail
        rw [next_text, ← HFL2.out]
        go_roundw
        case rel => exact ⟨q + 1, by go_num, by omega, rfl, hrow3, HB3⟩
        case measure => simp [intOf]; omega
      · obtain rfl : q = ks.length := by omega
        rw [List.take_of_length_le (Nat.le_refl _)]
        have e2 : wr.cell? ⟨P, 2, none⟩ = some (.slice B ks.length c2) := by simp [World.cell?, hrow]
        by_cases hne : ks = []
        · have HS3 := Lib.hid (HS1.out hne)
          subst hne
          simp only [List.flatMap_nil, List.append_nil]
          go_wp2_with fail
          go_ret
          rw [HS3.out]
          exact ⟨rfl, HB.out⟩
        · have HS3 := Lib.hid (HS2.out hne)
          have hsm := HSM.out hne
          have hpos : 0 < ks.length := List.length_pos_iff.2 hne
          have n5 : ¬ (9223372036854775807 < 1 + (strB (pre ++ ks.flatMap (fun k => 32 :: showAt t k.toNat))).size) := by rw [strB_size, List.length_append]; omega
          have n6 : ¬ (9223372036854775807 < 1 + (strB (pre ++ ks.flatMap (fun k => 32 :: showAt t k.toNat))).size + 1) := by rw [strB_size, List.length_append]; omega
          generalize pre ++ ks.flatMap (fun k => 32 :: showAt t k.toNat) = full at *
          clear hne
          go_wp2_with fail
          go_ret
          rw [HS3.out, ← end_text]
          exact ⟨rfl, by rw [hPP]; exact HB.out⟩
end Go.Proofs.YtebejlnegalokaaGreatDoor.Nz
