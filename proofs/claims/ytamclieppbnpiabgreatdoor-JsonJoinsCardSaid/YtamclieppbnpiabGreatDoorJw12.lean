/-
  A text's text: by the program.
-/
import Derived.Test.YtamclieppbnpiabGreatDoorProg
import Derived.Test.YtamclieppbnpiabGreatDoorReg
import Derived.WalkKit
import Derived.WalkSpells
import Derived.WalkLawsBesides
import Derived.Lib.Hide
import Derived.Lib.MinMax
import Derived.Deep.QuietTactic
import Derived.BigQuiet
import Derived.OwnWalk
import Derived.Deep.AppendLies
import Derived.KernelRfl
import Derived.Laws.RangeAny
import Derived.Laws.IdiomStrings
import Derived.Test.YtamclieppbnpiabGreatDoorJw8
import Derived.Test.YtamclieppbnpiabGreatDoorJw11
import Derived.Laws.OwnMore
import Derived.Deep.RegionWith
set_option linter.unusedSimpArgs false
set_option linter.unusedVariables false
namespace Go.Proofs.YtamclieppbnpiabGreatDoor
open Go Go.RowKit Go.Sort Go.Shelf
open Fz (HoldsS)

theorem byteCells_app (a b : List UInt8) : Lib.byteCells (a ++ b) = Lib.byteCells a ++ Lib.byteCells b := by simp [Lib.byteCells]
theorem strCells_bs (l : List UInt8) : Lib.strCells (bs l) = Lib.byteCells l := by unfold Lib.strCells Lib.byteCells; rw [bs_list]
abbrev hexB : ByteArray := ⟨#[48, 49, 50, 51, 52, 53, 54, 55, 56, 57, 97, 98, 99, 100, 101, 102]⟩
theorem hex_fin : ∀ n : Fin 16, hexB.data[n.val]? = some (hexd n.val) := by decide
theorem hex_get (n : Nat) (h : n < 16) (m : Nat) (e : m = n) (hm : m < hexB.size) : hexB[m] = hexd n := by
  subst e
  have := hex_fin ⟨m, h⟩
  simp only at this
  obtain ⟨h1, h2⟩ := Array.getElem?_eq_some_iff.1 this
  exact h2
set_option maxRecDepth 100000 in
theorem and_fin : ∀ n : Fin 32, bits BinOp.and IntKind.i32 ((n.val : Nat) : Int) 15 = (((n.val % 16 : Nat)) : Int) := by decide
theorem and_15 (n : Nat) (h : n < 32) : bits BinOp.and IntKind.i32 (n : Int) 15 = ((n % 16 : Nat) : Int) := and_fin ⟨n, h⟩
theorem addr_add0' (b j : Nat) : (⟨b, 0, none⟩ : Addr).add j = ⟨b, j, none⟩ := by rw [add_lit]; congr 1; omega
theorem two_cells (w : World) (a b : UInt8) : ∀ j (hj : j < [a, b].length), (w.alloc (.cells #[.int .u8 a.toNat, .int .u8 b.toNat] tU)).drew.cell? ((⟨w.heap.size, 0, none⟩ : Addr).add j) = some (.int .u8 ([a, b][j].toNat : Int)) := by
  intro j hj
  have h : (w.alloc (.cells #[.int .u8 a.toNat, .int .u8 b.toNat] tU)).drew.heap[w.heap.size]? = some (.cells #[.int .u8 a.toNat, .int .u8 b.toNat] tU (0, 0)) := heap_alloc_new w _
  rw [addr_add0']
  match j, hj with
  | 0, _ => rw [Lib.cell_of_heap h]; rfl
  | 1, _ => rw [Lib.cell_of_heap h]; rfl
theorem builder_alloc {w : World} {B b : Nat} {bs : List Value} (h : Lib.IsBuilderF tB tU B b bs w) (o : Obj) : Lib.IsBuilderF tB tU B b bs (w.alloc o).drew := by
  have hx : ∀ p, Lib.BuilderAtF tB tU B b p bs w → Lib.BuilderAtF tB tU B b p bs (w.alloc o).drew := by
    rintro p ⟨hB, v, hb, hown, hne⟩
    exact ⟨hB, v, (Lib.alloc_old w _ b (Array.getElem?_eq_some_iff.1 hb).1).trans hb, hown.alloc _, hne⟩
  exact h.elim (fun h => .inl (hx _ h)) (fun h => .inr (hx _ h))

set_option maxRecDepth 100000 in
set_option maxHeartbeats 8000000 in
theorem quoted_any (l : List UInt8) (w : World) (hl : l.length ≤ 1000000000) (hv : Lib.validD l = true) :
    Calls Tryz.prog 17 #[.string (bs l)] w fun e w' => e = .returned (.string (bs (quoteL l))) ∧ Below w.heap.size w w' := by
  have HV := Lib.hid hv
  clear hv
  go_enter Tryz.func17, Tryz.ntmps17
  go_wp2_with fail
  refine (writeByte_k w.heap.size w.heap.size [] 34 _ (Lib.IsBuilderF.of (Lib.fresh_isBuilder tB tU w)) (by simp) (by simp)).mono ?_
  rintro e W0 ⟨rfl, h0, hb0, hk0⟩
  have HB0 := Lib.hid ((below_new w (.cells #[.pointer none, .slice none 0 0] tB)).trans hb0)
  have HI0 := Lib.hid h0
  have hs0 := HB0.out.size
  have hs1 : w.heap.size < W0.heap.size := h0.lt
  clear h0 hb0 hk0
  go_wp2_with fail
  go_loopw [] (fun wr => ∃ (pos : Nat) (acc : List UInt8), pos ≤ l.length ∧ acc.length ≤ 6 * pos + 1 ∧ Hid (Lib.IsBuilderF tB tU w.heap.size w.heap.size (Lib.byteCells acc) wr) ∧ Hid (wr.heap[W0.heap.size]? = some (.stringIter (bs l) pos)) ∧ Hid (Below w.heap.size w wr) ∧ Hid (acc ++ (l.drop pos).flatMap escB = 34 :: l.flatMap escB) ∧ Hid (Lib.validD (l.drop pos) = true)) (fun wr => l.length - wr.iterPos W0.heap.size)
  case atStart =>
    refine ⟨0, [34], Nat.zero_le _, by simp, Lib.hid ?_, Lib.hid ?_, Lib.hid ?_, Lib.hid rfl, HV⟩
    · exact .inr (HI0.out.alloc _)
    · exact World.iter_heap W0 (bs l) 0
    · exact HB0.out.alloc hs0 _
  case round =>
    obtain ⟨pos, acc, hpl, hal, HI, HIt, HB, HA, HVr⟩ := hrel
    have hsz := HB.out.size
    have hne : W0.heap.size ≠ w.heap.size := by omega
    by_cases hp : pos < l.length
    · obtain ⟨c, r, hcr⟩ : ∃ c r, l.drop pos = c :: r := by
        cases h : l.drop pos with
        | nil => have := congrArg List.length h; rw [List.length_drop] at this; simp at this; omega
        | cons c r => exact ⟨c, r, rfl⟩
      have hlen : r.length + 1 + pos = l.length := by have := congrArg List.length hcr; rw [List.length_drop, List.length_cons] at this; omega
      have hnx := fun ty => Lib.run_next_any_at (P := Tryz.prog) wr (W0.heap.size) (bs l) pos ty HIt.out (by rw [bs_size]; exact hp)
      have hdec : Utf8.decode (bs l) pos = Lib.decodeL (c :: r) := by have := Lib.decodeL_drop (bs l) pos; rw [bs_list, hcr] at this; exact this.symm
      have hw1 := Lib.decodeL_width (c :: r)
      have hw2 := Lib.decodeL_le (c :: r) (by simp)
      rw [List.length_cons] at hw2
      have hA := HA.out
      have hVr := HVr.out
      rw [hcr] at hA hVr
      have hmax := Lib.decodeL_rune (c :: r)
      obtain ⟨n, hn⟩ : ∃ n, n = (Lib.decodeL (c :: r)).2 := ⟨_, rfl⟩
      have hdn : l.drop (pos + n) = (c :: r).drop n := by rw [← List.drop_drop, hcr]
      rw [hdec, ← hn] at hnx
      rw [← hn] at hw1 hw2
      have HI2 := Lib.hid (HI.out.iterAt HIt.out (pos + n))
      have HIt2 := Lib.hid (Lib.iterAt_heap wr (W0.heap.size) (bs l) pos (pos + n) HIt.out)
      have HB2 := Lib.hid (Lib.below_iterAt HB.out (k := W0.heap.size) (by omega) (bs l) (pos + n))
      have hsz2 : w.heap.size ≤ (wr.iterAt W0.heap.size (bs l) (pos + n)).heap.size := HB2.out.size
      have HM0 : Hid (∀ W : World, W.heap[W0.heap.size]? = some (.stringIter (bs l) (pos + n)) → l.length - W.iterPos W0.heap.size < l.length - wr.iterPos W0.heap.size) := Lib.hid (fun W h => by
        simp only [World.iterPos, h, HIt.out]
        omega)
      have hpn : pos + n ≤ l.length := by omega
      clear HI HIt HB HA HVr
      generalize wr.iterAt W0.heap.size (bs l) (pos + n) = w2 at *
      have hvn : Lib.validD ((c :: r).drop n) = true := by rw [hn]; exact (valid_fine (by simp) hVr).2
      have HVN : Hid (Lib.validD (l.drop (pos + n)) = true) := Lib.hid (by rw [hdn]; exact hvn)
      by_cases hsm : (Lib.decodeL (c :: r)).1 < 128
      · have hc := small_head hsm
        have e := Lib.decodeL_ascii c r hc
        have hn1 : n = 1 := by rw [hn, e]
        rw [e] at hnx
        have hc2 := UInt8.toNat_lt c
        have HA2 : Hid (acc ++ (escB c ++ (l.drop (pos + n)).flatMap escB) = 34 :: l.flatMap escB) := Lib.hid (by rw [← hA, hdn, hn1]; rfl)
        clear hA hVr hvn hdn hcr hdec hw1 hw2 hmax hsm e hn
        subst hn1
        by_cases h32 : c.toNat < 32
        · have q1 : (c.toNat : Int) < 32 := by omega
          have hE : escB c = [92, 117, 48, 48, hexd (c.toNat / 16), hexd (c.toNat % 16)] := by unfold escB; rw [if_pos h32]
          rw [hE] at HA2
          have k0 : (0 : Int) ≤ (c.toNat : Int) / 16 := by omega
          have k1 : (c.toNat : Int) / 16 < 16 := by omega
          have k2 : (0 : Int) ≤ (c.toNat : Int) % 16 := by omega
          have k3 : (c.toNat : Int) % 16 < 16 := by omega
          have k4 := and_15 c.toNat h32
          have k5 := fun hm => hex_get (c.toNat / 16) (by omega) ((c.toNat : Int) / 16).toNat (by omega) hm
          have k6 := fun hm => hex_get (c.toNat % 16) (by omega) (c.toNat % 16) rfl hm
          have k7 := fun hm => hex_get (c.toNat % 16) (by omega) ((c.toNat : Int) % 16).toNat (by omega) hm
          clear hE
          generalize hexd (c.toNat / 16) = a1 at *
          generalize hexd (c.toNat % 16) = a2 at *
          have hcb := run_convert_bytes_back (P := Tryz.prog) (w2.alloc (.cells #[.int .u8 a1.toNat, .int .u8 a2.toNat] tU)).drew 71 9 5 ⟨w2.heap.size, 0, none⟩ 2 [a1, a2] Tryz.underlying71 Tryz.underlying5 Tryz.underlying9 (two_cells w2 a1 a2)
          simp only [List.length_cons, List.length_nil, Nat.reduceAdd] at hcb
          have HI3 := Lib.hid (builder_alloc HI2.out (.cells #[.int .u8 a1.toNat, .int .u8 a2.toNat] tU))
          have HIt3 : Hid ((w2.alloc (.cells #[.int .u8 a1.toNat, .int .u8 a2.toNat] tU)).drew.heap[W0.heap.size]? = some (.stringIter (bs l) (pos + 1))) := Lib.hid ((Lib.alloc_old w2 _ W0.heap.size (Array.getElem?_eq_some_iff.1 HIt2.out).1).trans HIt2.out)
          have HB3 : Hid (Below w.heap.size w (w2.alloc (.cells #[.int .u8 a1.toNat, .int .u8 a2.toNat] tU)).drew) := Lib.hid ((HB2.out.alloc hsz2 _).drew)
          go_wp2
          refine wp_region_ord (S := fun _ => True) [0, 1, 2, 3, 4, 5] [6, 7, 8, 9] (by kernel_rfl) (by kernel_rfl) (fun _ _ _ _ _ h => h) trivial ?_
          simp only [pick, List.filterMap_cons, List.filterMap_nil, List.getElem?_toArray, List.getElem?_cons_zero, List.getElem?_cons_succ]
          repeat (refine wpHead_step (v := ?_) rfl ?_ ?_; rotate_left; (focus (rintro w1 _; go_simp; try with_reducible rfl)); simp only [Act.put, List.setIfInBounds_toArray, List.set_cons_zero, List.set_cons_succ])
          refine wpHead_nil ?_
          refine wpTail_step rfl (fun K hK => ?_)
          go_wp2_with fail
          refine hK _ _ trivial ?_
          clear hK K
          try simp only [Act.put, List.setIfInBounds_toArray, List.set_cons_zero, List.set_cons_succ]
          refine wpTail_step rfl (fun K hK => ?_)
          go_wp2_with fail
          refine hK _ _ trivial ?_
          clear hK K
          try simp only [Act.put, List.setIfInBounds_toArray, List.set_cons_zero, List.set_cons_succ]
          refine wpTail_step rfl (fun K hK => ?_)
          go_wp2_with fail
          refine hK _ _ trivial ?_
          clear hK K
          try simp only [Act.put, List.setIfInBounds_toArray, List.set_cons_zero, List.set_cons_succ]
          refine wpTail_step rfl (fun K hK => ?_)
          go_wp2_with fail
          refine (writeString_k w.heap.size w.heap.size (Lib.byteCells acc) (bs [92, 117, 48, 48, a1, a2]) _ HI3.out (by rw [Lib.byteCells_length, bs_size]; simp; omega) HB3.out.size).mono ?_
          rintro e w4 ⟨rfl, h4, hb4, hk4⟩
          rw [strCells_bs, ← byteCells_app] at h4
          have HI4 := Lib.hid h4
          have HIt4 := Lib.hid (hk4.iter HIt3.out hne)
          have HB4 := Lib.hid (HB3.out.trans hb4)
          clear h4 hk4 hb4
          go_wp2_with fail
          refine hK _ _ trivial ?_
          clear hK K
          try simp only [Act.put, List.setIfInBounds_toArray, List.set_cons_zero, List.set_cons_succ]
          refine wpTail_nil ?_
          go_wp2_with fail
          go_roundw
          case rel => exact ⟨pos + 1, acc ++ [92, 117, 48, 48, a1, a2], hpn, by simp; omega, Lib.hid (.inr HI4.out), HIt4, HB4, Lib.hid (by rw [← HA2.out]; simp), HVN⟩
          case measure => exact HM0.out _ HIt4.out
        have q1 : ¬ (c.toNat : Int) < 32 := by omega
        by_cases h34 : c = 34
        · subst h34
          have hE : escB 34 = [92, 34] := by decide
          rw [hE] at HA2
          clear hE
          go_wp2_with fail
          refine (writeString_k w.heap.size w.heap.size (Lib.byteCells acc) (bs [92, 34]) _ HI2.out (by rw [Lib.byteCells_length, bs_size]; simp; omega) HB2.out.size).mono ?_
          rintro e w4 ⟨rfl, h4, hb4, hk4⟩
          rw [strCells_bs, ← byteCells_app] at h4
          have HI4 := Lib.hid h4
          have HIt4 := Lib.hid (hk4.iter HIt2.out hne)
          have HB4 := Lib.hid (HB2.out.trans hb4)
          clear h4 hk4 hb4
          go_wp2_with fail
          go_roundw
          case rel => exact ⟨pos + 1, acc ++ [92, 34], hpn, by simp; omega, Lib.hid (.inr HI4.out), HIt4, HB4, Lib.hid (by rw [← HA2.out]; simp), HVN⟩
          case measure => exact HM0.out _ HIt4.out
        by_cases h92 : c = 92
        · subst h92
          have hE : escB 92 = [92, 92] := by decide
          rw [hE] at HA2
          clear hE
          go_wp2_with fail
          refine (writeString_k w.heap.size w.heap.size (Lib.byteCells acc) (bs [92, 92]) _ HI2.out (by rw [Lib.byteCells_length, bs_size]; simp; omega) HB2.out.size).mono ?_
          rintro e w4 ⟨rfl, h4, hb4, hk4⟩
          rw [strCells_bs, ← byteCells_app] at h4
          have HI4 := Lib.hid h4
          have HIt4 := Lib.hid (hk4.iter HIt2.out hne)
          have HB4 := Lib.hid (HB2.out.trans hb4)
          clear h4 hk4 hb4
          go_wp2_with fail
          go_roundw
          case rel => exact ⟨pos + 1, acc ++ [92, 92], hpn, by simp; omega, Lib.hid (.inr HI4.out), HIt4, HB4, Lib.hid (by rw [← HA2.out]; simp), HVN⟩
          case measure => exact HM0.out _ HIt4.out
        have n34 : c.toNat ≠ 34 := fun h => h34 (UInt8.toNat.inj h)
        have n92 : c.toNat ≠ 92 := fun h => h92 (UInt8.toNat.inj h)
        have q2 : ((c.toNat : Int) == 34) = false := by simp; omega
        have q3 : ((c.toNat : Int) == 92) = false := by simp; omega
        have hE : escB c = [c] := by unfold escB; rw [if_neg h32, if_neg (by simp [h34, h92])]
        rw [hE] at HA2
        have hR : Lib.runeCells (c.toNat : Int) = Lib.byteCells [c] := by rw [← encode_byte hc, Lib.byteCells_encodeRune]
        have HR := Lib.hid hR
        clear hE hR
        go_wp2_with fail
        refine (writeRune_k w.heap.size w.heap.size (Lib.byteCells acc) (c.toNat : Int) (by omega) (by omega) _ HI2.out (by rw [Lib.byteCells_length]; omega) HB2.out.size).mono ?_
        rintro e w4 ⟨rfl, h4, hb4, hk4⟩
        rw [HR.out, ← byteCells_app] at h4
        have HI4 := Lib.hid h4
        have HIt4 := Lib.hid (hk4.iter HIt2.out hne)
        have HB4 := Lib.hid (HB2.out.trans hb4)
        clear h4 hk4 hb4
        go_wp2_with fail
        go_roundw
        case rel => exact ⟨pos + 1, acc ++ [c], hpn, by simp; omega, Lib.hid (.inr HI4.out), HIt4, HB4, Lib.hid (by rw [← HA2.out]; simp), HVN⟩
        case measure => exact HM0.out _ HIt4.out
      · have hqw := quote_wide (by simp) hVr (by omega)
        rw [← hn] at hqw
        have HA2 : Hid (acc ++ (Lib.encodeRune ((Lib.decodeL (c :: r)).1 : Int) ++ (l.drop (pos + n)).flatMap escB) = 34 :: l.flatMap escB) := Lib.hid (by rw [← hA, hdn, hqw])
        generalize (Lib.decodeL (c :: r)).1 = x at *
        have q1 : ¬ (x : Int) < 32 := by omega
        have q2 : ((x : Int) == 34) = false := by simp; omega
        have q3 : ((x : Int) == 92) = false := by simp; omega
        have HR := Lib.hid (Lib.byteCells_encodeRune (x : Int)).symm
        have hle := encode_len (x : Int)
        clear hA hVr hvn hdn hcr hdec hw2 hqw hn
        go_wp2_with fail
        refine (writeRune_k w.heap.size w.heap.size (Lib.byteCells acc) (x : Int) (by omega) (by omega) _ HI2.out (by rw [Lib.byteCells_length]; omega) HB2.out.size).mono ?_
        rintro e w4 ⟨rfl, h4, hb4, hk4⟩
        rw [HR.out, ← byteCells_app] at h4
        have HI4 := Lib.hid h4
        have HIt4 := Lib.hid (hk4.iter HIt2.out hne)
        have HB4 := Lib.hid (HB2.out.trans hb4)
        clear h4 hk4 hb4
        go_wp2_with fail
        go_roundw
        case rel => exact ⟨pos + n, acc ++ Lib.encodeRune (x : Int), hpn, by simp; omega, Lib.hid (.inr HI4.out), HIt4, HB4, Lib.hid (by rw [← HA2.out]; simp), HVN⟩
        case measure => exact HM0.out _ HIt4.out
    · obtain rfl : pos = l.length := by omega
      have hnx := fun ty => Lib.run_next_end_at (P := Tryz.prog) wr (W0.heap.size) (bs l) l.length ty HIt.out (by rw [bs_size]; omega)
      have hA := HA.out
      rw [List.drop_length] at hA
      have HA2 : Hid (acc ++ [34] = quoteL l) := Lib.hid (by
        have e : acc = 34 :: l.flatMap escB := by simpa using hA
        rw [e]; rfl)
      clear hA HA HVr
      go_wp2_with fail
      refine (writeByte_k w.heap.size w.heap.size (Lib.byteCells acc) 34 _ HI.out (by rw [Lib.byteCells_length]; omega) hsz).mono ?_
      rintro e w4 ⟨rfl, h4, hb4, hk4⟩
      have h5 : Lib.IsBuilderF tB tU w.heap.size w.heap.size (Lib.byteCells (quoteL l)) w4 := by
        rw [← HA2.out, byteCells_app]; exact .inr h4
      have HI5 := Lib.hid h5
      have HB5 := Lib.hid (HB.out.trans hb4)
      clear h4 h5 hk4 hb4
      go_wp2_with fail
      refine (Lay_Builder_String_any_k w.heap.size w.heap.size (quoteL l) _ HI5.out HB5.out.size).mono ?_
      rintro e w5 ⟨rfl, _, hb5, _⟩
      have HB6 := Lib.hid (HB5.out.trans hb5)
      clear hb5
      go_wp2_with fail
      go_ret
      exact ⟨rfl, HB6.out⟩
set_option maxHeartbeats 1000000 in
theorem Quote_any (a : Addr) (l : List UInt8) (w : World) (hl : l.length ≤ 1000000000) (hW : WJ a w) :
    Calls Tryz.prog 8 #[.string (bs l)] w fun e w' => e = .returned (.tuple #[.string (bs (if Lib.validD l then quoteL l else [])), .bool (Lib.validD l)]) ∧ Below w.heap.size w w' := by
  have HV := Lib.hid (Valid_lib (bs l) a w (by rw [bs_size]; exact hl) hW)
  unfold validB at HV
  rw [bs_list] at HV
  clear hW
  cases hv : Lib.validD l with
  | false =>
    rw [hv] at HV
    go_enter Tryz.func8, Tryz.ntmps8
    go_wp2_with fail
    refine HV.out.mono ?_
    rintro e w1 ⟨rfl, hb1⟩
    have HB1 := Lib.hid hb1
    clear hb1
    go_wp2_with fail
    go_ret2
    exact ⟨rfl, HB1.out⟩
  | true =>
    have HQ := Lib.hid (fun W => quoted_any l W hl hv)
    rw [hv] at HV
    go_enter Tryz.func8, Tryz.ntmps8
    go_wp2_with fail
    refine HV.out.mono ?_
    rintro e w1 ⟨rfl, hb1⟩
    have HB1 := Lib.hid hb1
    clear hb1
    go_wp2_with fail
    refine (HQ.out _).mono ?_
    rintro e w2 ⟨rfl, hb2⟩
    have HB2 := Lib.hid (HB1.out.trans (hb2.mono HB1.out.size))
    clear hb2
    go_wp2_with fail
    go_ret2
    exact ⟨rfl, HB2.out⟩
end Go.Proofs.YtamclieppbnpiabGreatDoor
/-
  A text's reading: by the program.
-/
namespace Go.Proofs.YtamclieppbnpiabGreatDoor
open Go Go.RowKit Go.Maps

attribute [local go_sem] Oper.semAt_some

theorem builder_same {B b : Nat} {bs : List Value} {w w' : World} (h : Lib.IsBuilderF tB tU B b bs w) (hk : ∀ (k : Nat) c t fz, w.heap[k]? = some (.cells c t fz) → w'.heap[k]? = w.heap[k]?) : Lib.IsBuilderF tB tU B b bs w' := by
  have main : ∀ p, Lib.BuilderAtF tB tU B b p bs w → Lib.BuilderAtF tB tU B b p bs w' := by
    rintro p ⟨hB, v, hb, hown, hne⟩
    refine ⟨hB, v, (hk b _ _ _ hb).trans hb, ⟨hown.1, ?_⟩, hne⟩
    rcases hown.2 with hn | ⟨g, cap, cur, fz, hv, hbg, hg, rest⟩
    · exact .inl hn
    · exact .inr ⟨g, cap, cur, fz, hv, hbg, (hk g _ _ _ hg).trans hg, rest⟩
  exact h.elim (fun x => .inl (main _ x)) (fun x => .inr (main _ x))
theorem put_cells {W : World} {L : Nat} {r r' : Loop} (hL : W.heap[L]? = some (.loop r)) : ∀ (k : Nat) c t fz, W.heap[k]? = some (.cells c t fz) → (W.putObj L (.loop r')).heap[k]? = W.heap[k]? := by
  intro k c t fz h
  refine World.putObj_heap_other (fun e => ?_)
  subst e
  rw [hL] at h
  cases h
theorem builder_cells {B b : Nat} {bs : List Value} {w : World} (h : Lib.IsBuilderF tB tU B b bs w) : ∃ cs t fz, w.heap[b]? = some (.cells cs t fz) := by
  rcases h with ⟨_, v, hb, _⟩ | ⟨_, v, hb, _⟩
  · exact ⟨_, _, _, hb⟩
  · exact ⟨_, _, _, hb⟩
/-- What the loop over the runes holds. -/
structure WordJ (w : World) (R L D N : Nat) (r : Loop) (pre : List UInt8) (W : World) : Prop where
  low : Lz.KeptBut w.heap.size R w W
  bu : Lib.IsBuilderF tB tU w.heap.size w.heap.size (Lib.byteCells pre) W
  box : W.heap[w.heap.size + 1]? = some (.cells #[.pointer (some ⟨R, 0, none⟩)] 47 (0, 0))
  books : Books L D r W
  len : pre.length ≤ N
theorem WordJ.but {w W W' : World} {R L D N : Nat} {r : Loop} {pre : List UInt8} (h : WordJ w R L D N r pre W) (hk : Lz.KeptBut W.heap.size R W W') (hR : R < w.heap.size) (hL : w.heap.size ≤ L) (hD : w.heap.size ≤ D) : WordJ w R L D N r pre W' := by
  have lt : ∀ {k : Nat} {o : Obj}, W.heap[k]? = some o → k < W.heap.size := fun h => (Array.getElem?_eq_some_iff.1 h).1
  exact ⟨but_trans h.low hk h.low.size, builder_stay h.bu hk hR, (hk.block _ (lt h.box) (by omega)).trans h.box,
    ⟨(hk.block _ (lt h.books.lp) (by omega)).trans h.books.lp, (hk.block _ (lt h.books.calls) (by omega)).trans h.books.calls, h.books.ne⟩, h.len⟩
/-- What a text's reading leaves. -/
def WordPost (a : Addr) (R : Nat) (nest : Int) (N : Nat) (E : Except Int (List UInt8 × List UInt8)) (e : Ending) (w w' : World) : Prop :=
  match E with
  | .ok (t, q) => e = .returned (.string (bs t)) ∧ Steps w w' R q nest .nilIface
  | .error c => ∃ t q, e = .returned (.string (bs t)) ∧ t.length ≤ N ∧ Steps w w' R q nest (errV a c)

set_option maxRecDepth 100000 in
set_option maxHeartbeats 8000000 in
theorem word_any (a : Addr) (R : Nat) (l : List UInt8) (nest : Int) (w : World) (E : Except Int (List UInt8 × List UInt8)) (hE : wordL l = E) (h : RdAt w R l nest .nilIface) (hl : l.length ≤ 100000000) (hW : WJ a w) (hR : 9 ≤ R) :
    Calls Tryz.prog 58 #[.pointer (some ⟨R, 0, none⟩)] w fun e w' => WordPost a R nest l.length E e w w' := by
  have lR := h.lt
  have hbA := below_new w (.cells #[.pointer none, .slice none 0 0] tB)
  have hzA : (w.alloc (.cells #[.pointer none, .slice none 0 0] tB)).heap.size = w.heap.size + 1 := by simp
  have hbu := Lib.IsBuilderF.of (Lib.fresh_isBuilder tB tU w)
  have hbS := below_new (w.alloc (.cells #[.pointer none, .slice none 0 0] tB)) (.cells #[.pointer (some ⟨R, 0, none⟩)] 47)
  have hXS := heap_alloc_new (w.alloc (.cells #[.pointer none, .slice none 0 0] tB)) (.cells #[.pointer (some ⟨R, 0, none⟩)] 47)
  have hzS : ((w.alloc (.cells #[.pointer none, .slice none 0 0] tB)).alloc (.cells #[.pointer (some ⟨R, 0, none⟩)] 47)).heap.size = w.heap.size + 2 := by simp
  rw [hzA] at hXS hbS
  have hL := hbA.trans (hbS.mono (by omega))
  have hbu2 : Lib.IsBuilderF tB tU w.heap.size w.heap.size (Lib.byteCells []) ((w.alloc (.cells #[.pointer none, .slice none 0 0] tB)).alloc (.cells #[.pointer (some ⟨R, 0, none⟩)] 47)) := builder_alloc hbu _
  have HR := Lib.hid h
  have HW := Lib.hid hW
  clear hbu hbS hbA h hW
  refine calls_of_wp_marks 3 Tryz.func58 rfl ?_
  simp only [Tryz.ntmps58, List.size_toArray, List.length_cons, List.length_nil, Nat.reduceAdd, Nat.reduceSub, Array.replicate_succ, Array.replicate_zero, List.push_toArray, List.append_toArray, List.nil_append, List.cons_append]
  go_wp2_with fail
  refine (runes_any R _).mono ?_
  rintro e w2 ⟨rfl, rfl⟩
  go_wp2_with fail
  generalize (w.alloc (.cells #[.pointer none, .slice none 0 0] tB)).alloc (.cells #[.pointer (some ⟨R, 0, none⟩)] 47) = V at *
  have hlw := HW.out.low
  refine wpIn_wide.1 (range_joint (n := 3) (F := Fence.wide) rfl (by omega) (gf := 92) (lb := #[.pointer (some ⟨w.heap.size + 1, 0, none⟩)]) rfl trivial (enters_of Tryz.func92 (by kernel_rfl) rfl) ?_)
  intro fn r W hfn hr hW hBk
  have hVW : Below V.heap.size V W := by rw [hW]; exact ((Below.refl _ V).alloc (Nat.le_refl _) _).alloc (by simp) _
  have hzW : W.heap.size = w.heap.size + 4 := by rw [hW]; simp; omega
  rw [hzS] at hBk hVW ⊢
  have hwW : Below w.heap.size w W := hL.trans (hVW.mono (by omega))
  have hVWc : ∀ (k : Nat) c t fz, V.heap[k]? = some (.cells c t fz) → W.heap[k]? = V.heap[k]? := fun k c t fz hk => hVW.block k (by have := (Array.getElem?_eq_some_iff.1 hk).1; omega)
  have hF0 : WordJ w R (w.heap.size + 2 + 1) (w.heap.size + 2) l.length r [] W := ⟨but_below' hwW, builder_same hbu2 hVWc, (hVW.block (w.heap.size + 1) (by omega)).trans hXS, hBk, by simp⟩
  have hst : ∀ pre W1 W2, WordJ w R (w.heap.size + 2 + 1) (w.heap.size + 2) l.length r pre W1 → Lz.KeptBut W1.heap.size R W1 W2 → WordJ w R (w.heap.size + 2 + 1) (w.heap.size + 2) l.length r pre W2 := fun pre W1 W2 h hk => h.but hk lR (by omega) (by omega)
  refine callsIn_wide.2 ((runes1_any 2 (w.heap.size + 2 + 1) (w.heap.size + 1) R a l nest (WordJ w R (w.heap.size + 2 + 1) (w.heap.size + 2) l.length r) W E hE hl hR (HR.out.below hwW) hF0 hst (fun pre W1 h => HW.out.but h.low hlw hR) (fun pre W1 h => h.box) ?hRounds).mono ?_)
  case hRounds =>
    intro pre t W5 hF5 hlen
    have r1 : r.state = .ready := by rw [hr]
    have r2 : r.pending = none := by rw [hr]
    have r3 : r.params.size = 1 := by rw [hr]; rfl
    have hz5 := hF5.low.size
    obtain ⟨W6, hW6⟩ : ∃ W6, W5.putObj (w.heap.size + 2 + 1) (.loop { r with state := .busy }) = W6 := ⟨_, rfl⟩
    have ho6 : ∀ j, j ≠ w.heap.size + 2 + 1 → W6.heap[j]? = W5.heap[j]? := fun j hj => by rw [← hW6]; exact World.putObj_heap_other hj
    have hz6 : W6.heap.size = W5.heap.size := by rw [← hW6]; simp [World.putObj]
    have hbu6 : Lib.IsBuilderF tB tU w.heap.size w.heap.size (Lib.byteCells pre) W6 := by rw [← hW6]; exact builder_same hF5.bu (put_cells hF5.books.lp)
    have hb56 : Below w.heap.size W5 W6 := by rw [← hW6]; exact ⟨rfl, rfl, rfl, by simp [World.putObj], fun k hk => World.putObj_heap_other (show k ≠ w.heap.size + 2 + 1 by omega)⟩
    refine (round_joint (F := Fence.wide) (n := 2) (args := #[.string (bs t)])
      (Post := fun W3 => Lib.IsBuilderF tB tU w.heap.size w.heap.size (Lib.byteCells (pre ++ t)) W3 ∧ Below w.heap.size W6 W3 ∧ Kept w.heap.size W6 W3) trivial hF5.books r1 r2 (by rw [r3]; rfl) ?_).mono ?_
    · have HW6 := Lib.hid hW6
      have HS := Lib.hid (writeString_k w.heap.size w.heap.size (Lib.byteCells pre) (bs t) W6 hbu6 (by rw [Lib.byteCells_length, bs_size]; have := hlen; simp at this; omega) (by omega))
      have HBu6 := Lib.hid hbu6
      clear hF5 hF0 hst hwW hVW hW hBk hVWc hbu2 hXS hL hzS ho6 r1 r2 r3 hbu6 hb56 hE
      subst hr
      gi_wp2_with fail
      refine ⟨KeepsOthers.refl _, ?_⟩
      rw [HW6.out]
      clear HW6
      gi_wp2_with fail
      refine ⟨trivial, (CallsIn.inRound (w.heap.size + 2 + 1) (callsIn_wide.2 HS.out)).mono ?_⟩
      rintro e w9 ⟨rfl, hx, hb, hk⟩
      have hpost : KeepsOthers W6 w9 ∧ Lib.IsBuilderF tB tU w.heap.size w.heap.size (Lib.byteCells (pre ++ t)) w9 ∧ Below w.heap.size W6 w9 ∧ Kept w.heap.size W6 w9 := by
        refine ⟨⟨hb.size, fun k o hk2 ho => hk k o hk2 (fun e => ?_) (fun c fz e => ?_)⟩, ?_, hb, hk⟩
        · obtain ⟨cs, ty, fz, hcs⟩ := builder_cells HBu6.out
          rw [Option.some.inj e, hcs] at hk2
          cases hk2
          cases ho
        · subst e
          cases ho
        · rw [byteCells_app, ← strCells_bs t]
          exact .inr hx
      have HP := Lib.hid hpost
      clear hpost hx hb hk
      gi_wp2_with fail
      exact HP.out
    · rintro e W' ⟨rfl, hB', W3, hB3, rfl, hbu3, hb3, hk3⟩
      have hoP : ∀ j, j ≠ w.heap.size + 2 + 1 → (W3.putObj (w.heap.size + 2 + 1) (.loop r)).heap[j]? = W3.heap[j]? := fun j hj => World.putObj_heap_other hj
      have hbP : Below w.heap.size W3 (W3.putObj (w.heap.size + 2 + 1) (.loop r)) := ⟨rfl, rfl, rfl, by simp [World.putObj], fun k hk => hoP k (by omega)⟩
      have hb9 := (hb56.trans hb3).trans hbP
      refine ⟨rfl, ⟨hF5.low.trans (but_below' hb9), builder_same hbu3 (put_cells hB3.lp), (hoP _ (by omega)).trans (hk3 _ _ ((ho6 _ (by omega)).trans hF5.box) (fun e => by have := Option.some.inj e; omega) (fun c fz e => by cases e)), hB', hlen⟩, hb9.block R lR⟩
  · rintro e W' ⟨hv, hF⟩
    have key : ∃ t q ev, WordJ w R (w.heap.size + 2 + 1) (w.heap.size + 2) l.length r t W' ∧ RdAt W' R q nest ev ∧ ∀ e W9, e = .returned (.string (bs t)) → Steps w W9 R q nest ev → WordPost a R nest l.length E e w W9 := by
      cases E with
      | ok p => exact ⟨p.1, p.2, .nilIface, hF.1, hF.2, fun e W9 h1 h2 => ⟨h1, h2⟩⟩
      | error c =>
        obtain ⟨t, q, h1, h2⟩ := hF
        exact ⟨t, q, errV a c, h1, h2, fun e W9 h3 h4 => ⟨t, q, h3, h1.len, h4⟩⟩
    obtain ⟨t, q, ev, hJ, hRd, hpost⟩ := key
    have HPost := Lib.hid hpost
    refine ⟨hv, hJ.books, ?_⟩
    have hput : ∀ j, j ≠ w.heap.size + 2 + 1 → (W'.putObj (w.heap.size + 2 + 1) (.loop { r with state := .exhausted })).heap[j]? = W'.heap[j]? := fun j hj => World.putObj_heap_other hj
    have hbP : Below w.heap.size W' (W'.putObj (w.heap.size + 2 + 1) (.loop { r with state := .exhausted })) := ⟨rfl, rfl, rfl, by simp [World.putObj], fun k hk => hput k (by omega)⟩
    have hD8 := (hput (w.heap.size + 2) (by omega)).trans hJ.books.calls
    have HB8 := Lib.hid (hJ.low.trans (but_below' hbP))
    have HR8 := Lib.hid (show RdAt (W'.putObj (w.heap.size + 2 + 1) (.loop { r with state := .exhausted })) R q nest ev from (hput R (by omega)).trans hRd)
    have HI8 := Lib.hid (builder_same hJ.bu (put_cells (r' := { r with state := .exhausted }) hJ.books.lp))
    generalize W'.putObj (w.heap.size + 2 + 1) (.loop { r with state := .exhausted }) = W8 at *
    have hz8 := HB8.out.size
    have HS := Lib.hid (Lay_Builder_String_any_k w.heap.size w.heap.size t W8 HI8.out hz8)
    have HD8 := Lib.hid hD8
    clear hput hbP hF hv hF0 hwW hVW hr hBk hW hJ hRd hpost hD8 hst hVWc hbu2 hXS hL hzS hE
    go_wp2_with fail
    refine HS.out.mono ?_
    rintro e w9 ⟨rfl, _, hb9, hk9⟩
    have hD9 := hk9 _ _ HD8.out (fun e => by have := Option.some.inj e; omega) (fun c fz e => by cases e)
    have HB9 := Lib.hid (HB8.out.trans (but_below' hb9))
    have HR9 := Lib.hid (show RdAt w9 R q nest ev from (hb9.block R lR).trans HR8.out)
    clear hb9 hk9
    go_wp2_with fail
    refine ⟨by simp, .inl ⟨_, _, rfl, run_takeDeferred hD9, ?_⟩⟩
    refine ⟨_, results_tmp rfl _ _ _, ?_⟩
    refine HPost.out _ _ rfl ⟨(World.putObj_heap_other (by omega)).trans HR9.out, HB9.out.trans (but_below' ⟨rfl, rfl, rfl, by simp [World.putObj], fun k hk => World.putObj_heap_other (show k ≠ w.heap.size + 2 by omega)⟩)⟩
end Go.Proofs.YtamclieppbnpiabGreatDoor
