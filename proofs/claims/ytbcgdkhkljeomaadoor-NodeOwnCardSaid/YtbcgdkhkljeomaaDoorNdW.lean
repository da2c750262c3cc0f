/-
  A text, as a show has it: by the program.
-/
import Derived.Test.YtbcgdkhkljeomaaDoorProg
import Derived.Test.YtbcgdkhkljeomaaDoorReg
import Derived.WalkKit
import Derived.WalkSpells
import Derived.WalkLawsBesides
import Derived.Lib.Hide
import Derived.Lib.MinMax
import Derived.Deep.QuietTactic
import Derived.BigQuiet
import Derived.OwnWalk
import Derived.Deep.AppendLies
import Derived.KernelRfl
import Derived.Laws.IdiomStrings
import Derived.Test.YtbcgdkhkljeomaaDoorNdBu
import Derived.Test.YtbcgdkhkljeomaaDoorNdP
set_option linter.unusedSimpArgs false
set_option linter.unusedVariables false
namespace Go.Proofs.YtbcgdkhkljeomaaDoor
open Go.RowKit Go.Shelf

abbrev tBs : TypeId := 80
def escaped (c : UInt8) : Bool := c < 0x21 || c > 0x7e || c == 37 || c == 40 || c == 41 || c == 58
def wordOne (c : UInt8) : List UInt8 := if escaped c then [37, hexOf (c.toNat / 16), hexOf (c.toNat % 16)] else [c]
theorem wordOf_eq (s : List UInt8) : wordOf s = s.flatMap wordOne := by
  unfold wordOf wordOne escaped
  rfl
theorem wordOf_snoc (s : List UInt8) (c : UInt8) : wordOf (s ++ [c]) = wordOf s ++ wordOne c := by simp [wordOf_eq]
theorem wordOne_len (c : UInt8) : (wordOne c).length ≤ 3 := by unfold wordOne; split <;> simp
theorem wordOf_len (s : List UInt8) : (wordOf s).length ≤ 3 * s.length := by
  rw [wordOf_eq]
  induction s with
  | nil => simp
  | cons c s ih =>
    have := wordOne_len c
    rw [List.flatMap_cons, List.length_append, List.length_cons]
    omega
theorem byteCells_app (a b : List UInt8) : Lib.byteCells (a ++ b) = Lib.byteCells a ++ Lib.byteCells b := by simp [Lib.byteCells]

theorem row_byte {s : ByteArray} {c k : Nat} {x : UInt8} (h : s.data.toList[k]? = some x) : (bytesRow s c)[k]? = some (.int .u8 x.toNat) := by
  obtain ⟨hj, h2⟩ := List.getElem?_eq_some_iff.1 h
  have h3 := bytesRow_at s c k (by simpa using hj)
  rw [h3, ← h2]
  simp

abbrev hexB : ByteArray := ⟨#[48, 49, 50, 51, 52, 53, 54, 55, 56, 57, 97, 98, 99, 100, 101, 102]⟩
theorem hex_fin : ∀ n : Fin 16, hexB.data[n.val]? = some (hexOf n.val) := by decide
theorem hex_get (n : Nat) (h : n < 16) (m : Nat) (e : m = n) (hm : m < hexB.size) : hexB[m] = hexOf n := by
  subst e
  have := hex_fin ⟨m, h⟩
  simp only at this
  obtain ⟨h1, h2⟩ := Array.getElem?_eq_some_iff.1 this
  exact h2
set_option maxRecDepth 100000 in
theorem and_fin : ∀ n : Fin 256, bits BinOp.and IntKind.u8 ((n.val : Nat) : Int) 15 = (((n.val % 16 : Nat)) : Int) := by decide
theorem and_15 (n : Nat) (h : n < 256) : bits BinOp.and IntKind.u8 (n : Int) 15 = ((n % 16 : Nat) : Int) := and_fin ⟨n, h⟩
theorem esc_cells (a b : UInt8) : Lib.strCells ⟨#[37, a, b]⟩ = Lib.byteCells [37, a, b] := rfl

theorem three_cells (w : World) (a b : UInt8) : ∀ j (hj : j < [37, a, b].length), (w.alloc (.cells #[.int .u8 37, .int .u8 a.toNat, .int .u8 b.toNat] tU)).drew.cell? ((⟨w.heap.size, 0, none⟩ : Addr).add j) = some (.int .u8 ([37, a, b][j].toNat : Int)) := by
  intro j hj
  have h : (w.alloc (.cells #[.int .u8 37, .int .u8 a.toNat, .int .u8 b.toNat] tU)).drew.heap[w.heap.size]? = some (.cells #[.int .u8 37, .int .u8 a.toNat, .int .u8 b.toNat] tU (0, 0)) := heap_alloc_new w _
  rw [addr_add0]
  match j, hj with
  | 0, _ => rw [Lib.cell_of_heap h]; rfl
  | 1, _ => rw [Lib.cell_of_heap h]; rfl
  | 2, _ => rw [Lib.cell_of_heap h]; rfl
theorem builder_alloc {w : World} {B b : Nat} {bs : List Value} (h : Lib.IsBuilderF tB tU B b bs w) (o : Obj) : Lib.IsBuilderF tB tU B b bs (w.alloc o).drew := by
  have hx : ∀ p, Lib.BuilderAtF tB tU B b p bs w → Lib.BuilderAtF tB tU B b p bs (w.alloc o).drew := by
    rintro p ⟨hB, v, hb, hown, hne⟩
    exact ⟨hB, v, (Lib.alloc_old w _ b (Array.getElem?_eq_some_iff.1 hb).1).trans hb, hown.alloc _, hne⟩
  exact h.elim (fun h => .inl (hx _ h)) (fun h => .inr (hx _ h))
theorem marked_alloc {w : World} {k : Nat} {cs : Array Value} (h : Marked w k cs) (o : Obj) : Marked (w.alloc o).drew k cs := (Lib.alloc_old w _ k (Array.getElem?_eq_some_iff.1 h).1).trans h

theorem back_byte (x : UInt8) : (((x.toNat : Nat) : Int)).toNat.toUInt8 = x := by simp
theorem ix_yes (x : UInt8) (h : x = 37 ∨ x = 40 ∨ x = 41 ∨ x = 58) : 0 ≤ Lib.indexByte [37, 40, 41, 58] x := by
  rcases h with rfl | rfl | rfl | rfl <;> decide
theorem ix_no (x : UInt8) (h : ¬ (x = 37 ∨ x = 40 ∨ x = 41 ∨ x = 58)) : Lib.indexByte [37, 40, 41, 58] x = -1 := by
  have h1 : (37 == x) = false := by simp; intro e; exact h (.inl e.symm)
  have h2 : (40 == x) = false := by simp; intro e; exact h (.inr (.inl e.symm))
  have h3 : (41 == x) = false := by simp; intro e; exact h (.inr (.inr (.inl e.symm)))
  have h4 : (58 == x) = false := by simp; intro e; exact h (.inr (.inr (.inr e.symm)))
  simp [Lib.indexByte, h1, h2, h3, h4]
theorem esc_lo (x : UInt8) (h : x.toNat < 33) : escaped x = true := by simp [escaped]; exact .inl (.inl (.inl (.inl (.inl (UInt8.lt_iff_toNat_lt.2 h)))))
theorem esc_hi (x : UInt8) (h : 126 < x.toNat) : escaped x = true := by simp [escaped]; exact .inl (.inl (.inl (.inl (.inr (UInt8.lt_iff_toNat_lt.2 h)))))
theorem esc_of (x : UInt8) (h : x = 37 ∨ x = 40 ∨ x = 41 ∨ x = 58) : escaped x = true := by rcases h with rfl | rfl | rfl | rfl <;> decide
theorem esc_no (x : UInt8) (h1 : ¬ x.toNat < 33) (h2 : ¬ 126 < x.toNat) (h : ¬ (x = 37 ∨ x = 40 ∨ x = 41 ∨ x = 58)) : escaped x = false := by
  have a1 : ¬ x < 33 := fun e => h1 (UInt8.lt_iff_toNat_lt.1 e)
  have a2 : ¬ 126 < x := fun e => h2 (UInt8.lt_iff_toNat_lt.1 e)
  simp [escaped, a1, a2]
  exact ⟨⟨⟨fun e => h (.inl e), fun e => h (.inr (.inl e))⟩, fun e => h (.inr (.inr (.inl e)))⟩, fun e => h (.inr (.inr (.inr e)))⟩

set_option maxRecDepth 100000 in
set_option maxHeartbeats 4000000 in
theorem word_any (s : ByteArray) (w : World) (hs : s.size ≤ 1000000) :
    Calls Tryd.prog 50 #[.string s] w fun e w' => e = .returned (.string ⟨(wordOf s.data.toList).toArray⟩) ∧ Below w.heap.size w w' := by
  have hcv := fun W => run_bytes_of_string (P := Tryd.prog) W 9 80 5 s Tryd.underlying9 Tryd.underlying80 Tryd.underlying5
  go_enter Tryd.func50, Tryd.ntmps50
  go_wp2_with fail
  clear hcv
  obtain ⟨W0, hW0⟩ : ∃ W0, W0 = (w.alloc (.cells #[.pointer none, .slice none 0 0] tB)) := ⟨_, rfl⟩
  have hr0 : W0.heap[w.heap.size]? = some (.cells #[.pointer none, .slice none 0 0] tB (0, 0)) := by rw [hW0]; exact heap_alloc_new _ _
  have hB0 : Below w.heap.size w W0 := by rw [hW0]; exact (Below.refl _ _).alloc (Nat.le_refl _) _
  have hz0 : W0.heap.size = w.heap.size + 1 := by rw [hW0]; simp
  rw [← hW0]
  generalize hC : bytesRow s (grownCap W0 s.size 0 tU) = cs
  generalize hcc : grownCap W0 s.size 0 tU = cap
  have HC : Hid (∀ (k : Nat) (x : UInt8), s.data.toList[k]? = some x → cs[k]? = some (.int .u8 x.toNat)) := Lib.hid (fun k x h => by rw [← hC]; exact row_byte h)
  have hm : Marked (W0.alloc (.cells cs tU (cs.size, cs.size + 1))).drew (w.heap.size + 1) cs := by
    rw [← hz0]; exact heap_alloc_new W0 _
  have hb1 : Lib.IsBuilderF tB tU w.heap.size w.heap.size (Lib.byteCells (wordOf (s.data.toList.take 0))) (W0.alloc (.cells cs tU (cs.size, cs.size + 1))).drew := by
    refine .inl ⟨Nat.le_refl _, .slice none 0 0, ?_, ?_, by simp [Value.ownBlock]⟩
    · exact (((Below.refl W0.heap.size W0).alloc (Nat.le_refl _) _).block _ (by omega)).trans hr0
    · exact ⟨rfl, .inl ⟨rfl, rfl⟩⟩
  have hB1 : Below w.heap.size w (W0.alloc (.cells cs tU (cs.size, cs.size + 1))).drew := (hB0.alloc (by omega) _).drew
  generalize (W0.alloc (.cells cs tU (cs.size, cs.size + 1))).drew = W1 at *
  clear hr0 hB0 hz0 hW0
  generalize hL : s.data.toList = L at *
  have HLN : Hid (s.size = L.length) := Lib.hid (by rw [← hL]; rfl)
  go_loopw [9] (fun v wr => ∃ k : Nat, v = .int .i64 k ∧ k ≤ L.length ∧ Hid (Lib.IsBuilderF tB tU w.heap.size w.heap.size (Lib.byteCells (wordOf (L.take k))) wr) ∧ Hid (Marked wr (w.heap.size + 1) cs) ∧ Hid (Below w.heap.size w wr)) (fun v _ => L.length - (intOf v).toNat)
  case atStart => exact ⟨0, rfl, Nat.zero_le _, Lib.hid hb1, Lib.hid hm, Lib.hid hB1⟩
  case round =>
    clear hb1 hm hB1
    obtain ⟨k, rfl, hk, HI, HMk, HB⟩ := hrel
    by_cases hlt : k < L.length
    · have g := List.getElem?_eq_getElem hlt
      have HW : Hid (wordOf (L.take (k + 1)) = wordOf (L.take k) ++ wordOne L[k]) := Lib.hid (by rw [List.take_succ_eq_append_getElem hlt, wordOf_snoc])
      have hwl := wordOf_len (L.take k)
      rw [List.length_take] at hwl
      have e1 : wr.cell? ⟨w.heap.size + 1, k, none⟩ = some (.int .u8 L[k].toNat) := by
        have h := HMk.out
        unfold Marked at h
        simp [World.cell?, h, HC.out k _ g]
      generalize L[k] = x at *
      have hx := UInt8.toNat_lt x
      have hlt' : (k : Int) < (s.size : Int) := by rw [HLN.out]; omega
      have hk6 : k ≤ 1000000 := by omega
      have hwl6 : (wordOf (L.take k)).length ≤ 3000000 := by omega
      clear hwl
      have hsz := HB.out.size
      clear g
      have HE : Hid (escaped x = true → wordOne x = [37, hexOf (x.toNat / 16), hexOf (x.toNat % 16)]) := Lib.hid (fun h => by unfold wordOne; rw [if_pos h])
      have HNE : Hid (escaped x = false → wordOne x = [x]) := Lib.hid (fun h => by unfold wordOne; rw [h]; rfl)
      have HXB := Lib.hid (back_byte x)
      by_cases h1 : x.toNat < 33
      · have q1 : (x.toNat : Int) < 33 := by omega
        have w1 := HE.out (esc_lo x h1)
        have HW1 : Hid (wordOf (L.take (k + 1)) = wordOf (L.take k) ++ [37, hexOf (x.toNat / 16), hexOf (x.toNat % 16)]) := Lib.hid (by rw [HW.out, w1])
        have k0 : (0 : Int) ≤ (x.toNat : Int) / 16 := by omega
        have k1 : (x.toNat : Int) / 16 < 16 := by omega
        have k2 : (0 : Int) ≤ (x.toNat : Int) % 16 := by omega
        have k3 : (x.toNat : Int) % 16 < 16 := by omega
        have k4 := and_15 x.toNat hx
        have k5 := fun hm => hex_get (x.toNat / 16) (by omega) ((x.toNat : Int) / 16).toNat (by omega) hm
        have k6 := fun hm => hex_get (x.toNat % 16) (by omega) (x.toNat % 16) rfl hm
        have k7 := fun hm => hex_get (x.toNat % 16) (by omega) ((x.toNat : Int) % 16).toNat (by omega) hm
        clear HW w1
        generalize hexOf (x.toNat / 16) = a1 at *
        generalize hexOf (x.toNat % 16) = a2 at *
        have hcb := run_convert_bytes_back (P := Tryd.prog) (wr.alloc (.cells #[.int .u8 37, .int .u8 a1.toNat, .int .u8 a2.toNat] tU)).drew 80 9 5 ⟨wr.heap.size, 0, none⟩ 3 [37, a1, a2] Tryd.underlying80 Tryd.underlying5 Tryd.underlying9 (three_cells wr a1 a2)
        simp only [List.length_cons, List.length_nil, Nat.reduceAdd] at hcb
        have HI2 := Lib.hid (builder_alloc HI.out (.cells #[.int .u8 37, .int .u8 a1.toNat, .int .u8 a2.toNat] tU))
        have HM2 : Hid (Marked (wr.alloc (.cells #[.int .u8 37, .int .u8 a1.toNat, .int .u8 a2.toNat] tU)).drew (w.heap.size + 1) cs) := Lib.hid (marked_alloc HMk.out _)
        have HB2 : Hid (Below w.heap.size w (wr.alloc (.cells #[.int .u8 37, .int .u8 a1.toNat, .int .u8 a2.toNat] tU)).drew) := Lib.hid ((HB.out.alloc hsz _).drew)
        go_wp2
        refine wp_region_ord (S := fun _ => True) [0, 1, 2, 3, 4, 5] [6, 7, 8] (by kernel_rfl) (by kernel_rfl) (fun _ _ _ _ _ h => h) trivial ?_
        simp only [pick, List.filterMap_cons, List.filterMap_nil, List.getElem?_toArray, List.getElem?_cons_zero, List.getElem?_cons_succ]
        repeat (refine wpHead_step (v := ?_) rfl ?_ ?_; rotate_left; (focus (rintro w1 _; go_simp; try with_reducible rfl)); simp only [Act.put, List.setIfInBounds_toArray, List.set_cons_zero, List.set_cons_succ])
        refine wpHead_nil ?_
        refine wpTail_step rfl (fun K hK => ?_)
        go_wp2_with fail
        refine hK _ _ trivial ?_
        clear hK K
        try simp only [Act.put, List.setIfInBounds_toArray, List.set_cons_zero, List.set_cons_succ]
        refine wpTail_step rfl (fun K hK => ?_)
        go_wp2_with fail
        refine hK _ _ trivial ?_
        clear hK K
        try simp only [Act.put, List.setIfInBounds_toArray, List.set_cons_zero, List.set_cons_succ]
        refine wpTail_step rfl (fun K hK => ?_)
        go_wp2_with fail
        refine (writeString_any w.heap.size w.heap.size (Lib.byteCells (wordOf (L.take k))) ⟨#[37, a1, a2]⟩ _ HI2.out (by simp [Lib.byteCells, ByteArray.size]; omega) HB2.out.size).mono ?_
        rintro e w4 ⟨rfl, h4, hb4, hm4⟩
        go_wp2_with fail
        refine hK _ _ trivial ?_
        clear hK K
        try simp only [Act.put, List.setIfInBounds_toArray, List.set_cons_zero, List.set_cons_succ]
        refine wpTail_nil ?_
        rw [esc_cells, ← byteCells_app, ← HW1.out] at h4
        go_wp2_with fail
        go_roundw
        case rel => exact ⟨k + 1, by go_num, by omega, Lib.hid (.inr h4), Lib.hid (hm4 _ _ HM2.out), Lib.hid (HB2.out.trans hb4)⟩
        case measure => simp [intOf]; omega
      by_cases h2 : 126 < x.toNat
      · have q1 : ¬ (x.toNat : Int) < 33 := by omega
        have q2 : (126 : Int) < (x.toNat : Int) := by omega
        have w1 := HE.out (esc_hi x h2)
        have HW1 : Hid (wordOf (L.take (k + 1)) = wordOf (L.take k) ++ [37, hexOf (x.toNat / 16), hexOf (x.toNat % 16)]) := Lib.hid (by rw [HW.out, w1])
        have k0 : (0 : Int) ≤ (x.toNat : Int) / 16 := by omega
        have k1 : (x.toNat : Int) / 16 < 16 := by omega
        have k2 : (0 : Int) ≤ (x.toNat : Int) % 16 := by omega
        have k3 : (x.toNat : Int) % 16 < 16 := by omega
        have k4 := and_15 x.toNat hx
        have k5 := fun hm => hex_get (x.toNat / 16) (by omega) ((x.toNat : Int) / 16).toNat (by omega) hm
        have k6 := fun hm => hex_get (x.toNat % 16) (by omega) (x.toNat % 16) rfl hm
        have k7 := fun hm => hex_get (x.toNat % 16) (by omega) ((x.toNat : Int) % 16).toNat (by omega) hm
        clear HW w1
        generalize hexOf (x.toNat / 16) = a1 at *
        generalize hexOf (x.toNat % 16) = a2 at *
        have hcb := run_convert_bytes_back (P := Tryd.prog) (wr.alloc (.cells #[.int .u8 37, .int .u8 a1.toNat, .int .u8 a2.toNat] tU)).drew 80 9 5 ⟨wr.heap.size, 0, none⟩ 3 [37, a1, a2] Tryd.underlying80 Tryd.underlying5 Tryd.underlying9 (three_cells wr a1 a2)
        simp only [List.length_cons, List.length_nil, Nat.reduceAdd] at hcb
        have HI2 := Lib.hid (builder_alloc HI.out (.cells #[.int .u8 37, .int .u8 a1.toNat, .int .u8 a2.toNat] tU))
        have HM2 : Hid (Marked (wr.alloc (.cells #[.int .u8 37, .int .u8 a1.toNat, .int .u8 a2.toNat] tU)).drew (w.heap.size + 1) cs) := Lib.hid (marked_alloc HMk.out _)
        have HB2 : Hid (Below w.heap.size w (wr.alloc (.cells #[.int .u8 37, .int .u8 a1.toNat, .int .u8 a2.toNat] tU)).drew) := Lib.hid ((HB.out.alloc hsz _).drew)
        go_wp2
        refine wp_region_ord (S := fun _ => True) [0, 1, 2, 3, 4, 5] [6, 7, 8] (by kernel_rfl) (by kernel_rfl) (fun _ _ _ _ _ h => h) trivial ?_
        simp only [pick, List.filterMap_cons, List.filterMap_nil, List.getElem?_toArray, List.getElem?_cons_zero, List.getElem?_cons_succ]
        repeat (refine wpHead_step (v := ?_) rfl ?_ ?_; rotate_left; (focus (rintro w1 _; go_simp; try with_reducible rfl)); simp only [Act.put, List.setIfInBounds_toArray, List.set_cons_zero, List.set_cons_succ])
        refine wpHead_nil ?_
        refine wpTail_step rfl (fun K hK => ?_)
        go_wp2_with fail
        refine hK _ _ trivial ?_
        clear hK K
        try simp only [Act.put, List.setIfInBounds_toArray, List.set_cons_zero, List.set_cons_succ]
        refine wpTail_step rfl (fun K hK => ?_)
        go_wp2_with fail
        refine hK _ _ trivial ?_
        clear hK K
        try simp only [Act.put, List.setIfInBounds_toArray, List.set_cons_zero, List.set_cons_succ]
        refine wpTail_step rfl (fun K hK => ?_)
        go_wp2_with fail
        refine (writeString_any w.heap.size w.heap.size (Lib.byteCells (wordOf (L.take k))) ⟨#[37, a1, a2]⟩ _ HI2.out (by simp [Lib.byteCells, ByteArray.size]; omega) HB2.out.size).mono ?_
        rintro e w4 ⟨rfl, h4, hb4, hm4⟩
        go_wp2_with fail
        refine hK _ _ trivial ?_
        clear hK K
        try simp only [Act.put, List.setIfInBounds_toArray, List.set_cons_zero, List.set_cons_succ]
        refine wpTail_nil ?_
        rw [esc_cells, ← byteCells_app, ← HW1.out] at h4
        go_wp2_with fail
        go_roundw
        case rel => exact ⟨k + 1, by go_num, by omega, Lib.hid (.inr h4), Lib.hid (hm4 _ _ HM2.out), Lib.hid (HB2.out.trans hb4)⟩
        case measure => simp [intOf]; omega
      have q1 : ¬ (x.toNat : Int) < 33 := by omega
      have q2 : ¬ (126 : Int) < (x.toNat : Int) := by omega
      by_cases h3 : x = 37 ∨ x = 40 ∨ x = 41 ∨ x = 58
      · have q3 := ix_yes x h3
        have w1 := HE.out (esc_of x h3)
        clear h3
        have HW1 : Hid (wordOf (L.take (k + 1)) = wordOf (L.take k) ++ [37, hexOf (x.toNat / 16), hexOf (x.toNat % 16)]) := Lib.hid (by rw [HW.out, w1])
        have k0 : (0 : Int) ≤ (x.toNat : Int) / 16 := by omega
        have k1 : (x.toNat : Int) / 16 < 16 := by omega
        have k2 : (0 : Int) ≤ (x.toNat : Int) % 16 := by omega
        have k3 : (x.toNat : Int) % 16 < 16 := by omega
        have k4 := and_15 x.toNat hx
        have k5 := fun hm => hex_get (x.toNat / 16) (by omega) ((x.toNat : Int) / 16).toNat (by omega) hm
        have k6 := fun hm => hex_get (x.toNat % 16) (by omega) (x.toNat % 16) rfl hm
        have k7 := fun hm => hex_get (x.toNat % 16) (by omega) ((x.toNat : Int) % 16).toNat (by omega) hm
        clear HW w1
        generalize hr : Lib.indexByte [37, 40, 41, 58] x = r at *
        have HR := Lib.hid hr
        clear hr
        generalize hexOf (x.toNat / 16) = a1 at *
        generalize hexOf (x.toNat % 16) = a2 at *
        have hcb := run_convert_bytes_back (P := Tryd.prog) (wr.alloc (.cells #[.int .u8 37, .int .u8 a1.toNat, .int .u8 a2.toNat] tU)).drew 80 9 5 ⟨wr.heap.size, 0, none⟩ 3 [37, a1, a2] Tryd.underlying80 Tryd.underlying5 Tryd.underlying9 (three_cells wr a1 a2)
        simp only [List.length_cons, List.length_nil, Nat.reduceAdd] at hcb
        have HI2 := Lib.hid (builder_alloc HI.out (.cells #[.int .u8 37, .int .u8 a1.toNat, .int .u8 a2.toNat] tU))
        have HM2 : Hid (Marked (wr.alloc (.cells #[.int .u8 37, .int .u8 a1.toNat, .int .u8 a2.toNat] tU)).drew (w.heap.size + 1) cs) := Lib.hid (marked_alloc HMk.out _)
        have HB2 : Hid (Below w.heap.size w (wr.alloc (.cells #[.int .u8 37, .int .u8 a1.toNat, .int .u8 a2.toNat] tU)).drew) := Lib.hid ((HB.out.alloc hsz _).drew)
        go_wp2_with fail
        refine (Lay_strings_IndexByte _ _ _).mono ?_
        rintro e w9 ⟨rfl, rfl⟩
        rw [HXB.out, HR.out]
        go_wp2_with fail
        refine wp_region_ord (S := fun _ => True) [0, 1, 2, 3, 4, 5] [6, 7, 8] (by kernel_rfl) (by kernel_rfl) (fun _ _ _ _ _ h => h) trivial ?_
        simp only [pick, List.filterMap_cons, List.filterMap_nil, List.getElem?_toArray, List.getElem?_cons_zero, List.getElem?_cons_succ]
        repeat (refine wpHead_step (v := ?_) rfl ?_ ?_; rotate_left; (focus (rintro w1 _; go_simp; try with_reducible rfl)); simp only [Act.put, List.setIfInBounds_toArray, List.set_cons_zero, List.set_cons_succ])
        refine wpHead_nil ?_
        refine wpTail_step rfl (fun K hK => ?_)
        go_wp2_with fail
        refine hK _ _ trivial ?_
        clear hK K
        try simp only [Act.put, List.setIfInBounds_toArray, List.set_cons_zero, List.set_cons_succ]
        refine wpTail_step rfl (fun K hK => ?_)
        go_wp2_with fail
        refine hK _ _ trivial ?_
        clear hK K
        try simp only [Act.put, List.setIfInBounds_toArray, List.set_cons_zero, List.set_cons_succ]
        refine wpTail_step rfl (fun K hK => ?_)
        go_wp2_with fail
        refine (writeString_any w.heap.size w.heap.size (Lib.byteCells (wordOf (L.take k))) ⟨#[37, a1, a2]⟩ _ HI2.out (by simp [Lib.byteCells, ByteArray.size]; omega) HB2.out.size).mono ?_
        rintro e w4 ⟨rfl, h4, hb4, hm4⟩
        go_wp2_with fail
        refine hK _ _ trivial ?_
        clear hK K
        try simp only [Act.put, List.setIfInBounds_toArray, List.set_cons_zero, List.set_cons_succ]
        refine wpTail_nil ?_
        rw [esc_cells, ← byteCells_app, ← HW1.out] at h4
        go_wp2_with fail
        go_roundw
        case rel => exact ⟨k + 1, by go_num, by omega, Lib.hid (.inr h4), Lib.hid (hm4 _ _ HM2.out), Lib.hid (HB2.out.trans hb4)⟩
        case measure => simp [intOf]; omega
      · have hr := ix_no x h3
        have HR := Lib.hid hr
        have w1 := HNE.out (esc_no x h1 h2 h3)
        have HW1 : Hid (wordOf (L.take (k + 1)) = wordOf (L.take k) ++ [x]) := Lib.hid (by rw [HW.out, w1])
        clear h3 hr w1 HW
        go_wp2_with fail
        refine (Lay_strings_IndexByte _ _ _).mono ?_
        rintro e w9 ⟨rfl, rfl⟩
        rw [HXB.out, HR.out]
        go_wp2_with fail
        refine (writeByte_any w.heap.size w.heap.size (Lib.byteCells (wordOf (L.take k))) x.toNat _ HI.out (by simp [Lib.byteCells]; omega) HB.out.size).mono ?_
        rintro e w4 ⟨rfl, h4, hb4, hm4⟩
        rw [show ([Value.int .u8 (x.toNat : Int)] : List Value) = Lib.byteCells [x] from rfl, ← byteCells_app, ← HW1.out] at h4
        go_wp2_with fail
        go_roundw
        case rel => exact ⟨k + 1, by go_num, by omega, Lib.hid (.inr h4), Lib.hid (hm4 _ _ HMk.out), Lib.hid (HB.out.trans hb4)⟩
        case measure => simp [intOf]; omega
    · obtain rfl : k = L.length := by omega
      have hlt' : ¬ ((L.length : Int) < (s.size : Int)) := by rw [HLN.out]; omega
      have HI2 : Hid (Lib.IsBuilderF tB tU w.heap.size w.heap.size (Lib.byteCells (wordOf L)) wr) := Lib.hid (by have h := HI.out; rwa [List.take_of_length_le (Nat.le_refl _)] at h)
      go_wp2_with fail
      refine (Lay_Builder_String_any_f w.heap.size w.heap.size (wordOf L) _ HI2.out HB.out.size).mono ?_
      rintro e w4 ⟨rfl, _, hb4⟩
      go_wp2_with fail
      go_ret
      rw [hL]
      exact ⟨rfl, HB.out.trans hb4⟩
end Go.Proofs.YtbcgdkhkljeomaaDoor
