/-
  The library at four bytes: is a sign among them; their number.
-/
import Derived.Test.YtamclieppbnpiabGreatDoorProg
import Derived.Test.YtamclieppbnpiabGreatDoorReg
import Derived.WalkKit
import Derived.WalkSpells
import Derived.WalkLawsBesides
import Derived.Lib.Hide
import Derived.Lib.MinMax
import Derived.Deep.QuietTactic
import Derived.BigQuiet
import Derived.OwnWalk
import Derived.Deep.AppendLies
import Derived.KernelRfl
import Derived.Laws.RangeAny
import Derived.Laws.Runes
import Derived.Lib.OthersKept
import Derived.Shelf.Strings.IndexAnyAll
import Derived.Shelf.Strings.Runes
import Derived.Test.YtamclieppbnpiabGreatDoorJw6
import Derived.Test.YtamclieppbnpiabGreatDoorJw7
import Derived.Shelf.Strings.BuilderF
import Derived.Lib.FrozenHead2
import Derived.Lib.RuneBytes
import Derived.Test.YtamclieppbnpiabGreatDoorLzM1
set_option linter.unusedSimpArgs false
set_option linter.unusedVariables false
namespace Go.Proofs.YtamclieppbnpiabGreatDoor
open Go Go.RowKit Go.Sort Go.Shelf
open Fz (HoldsS)

abbrev signsB : ByteArray := ⟨#[43, 45, 95]⟩
theorem IByte_lib (s : ByteArray) (c : Int) (w : World) : Calls Tryz.prog 104 #[.string s, .int .u8 c] w fun e w' => e = .returned (.int .i64 (Lib.indexByte s.data.toList c.toNat.toUInt8)) ∧ w' = w :=
  Any.strings_IndexByte { Lay_lays150 with } s c w
theorem IRune_ascii (s : ByteArray) (r : Int) (w : World) (h0 : 0 ≤ r) (h1 : r < 128) : Calls Tryz.prog 91 #[.string s, .int .i32 r] w fun e w' => e = .returned (.int .i64 (Lib.indexByte s.data.toList r.toNat.toUInt8)) ∧ w' = w :=
  Any.strings_IndexRune_ascii { Lay_lays150 with } s r w h0 h1
theorem Should_lib (n : Int) (w : World) : Calls Tryz.prog 121 #[.int .i64 n] w fun e w' => e = .returned (.bool (decide (8 < n))) ∧ w' = w :=
  Any.strings_shouldUseASCIISet { Lay_lays150 with } n w
set_option maxHeartbeats 1000000 in
theorem ValidRune_yes (r : Int) (h0 : 0 ≤ r) (h1 : r < 55296 ∨ 57343 < r) (h2 : r ≤ 1114111) (w : World) : Calls Tryz.prog 105 #[.int .i32 r] w fun e w' => e = .returned (.bool true) ∧ w' = w := by
  by_cases q : r < 55296
  · go_enter Tryz.func105, Tryz.ntmps105
    go_wp2_with fail
    go_ret
    exact ⟨rfl, rfl⟩
  · have q2 : 57343 < r := by omega
    go_enter Tryz.func105, Tryz.ntmps105
    go_wp2_with fail
    go_ret
    exact ⟨rfl, rfl⟩
theorem below_drewN0 {a w : World} {m : Nat} (h : Below m a w) (n : Nat) : Below m a (w.drewN n) := ⟨h.os, h.tape, h.output, h.size, h.block⟩
theorem ib_no {l : List UInt8} (hl : ∀ b ∈ l, b.toNat < 128) {x : UInt8} (hx : 128 ≤ x.toNat) : Lib.indexByte l x = -1 := by
  induction l with
  | nil => rfl
  | cons c l ih =>
    have h1 : (c == x) = false := by
      rw [beq_eq_false_iff_ne]
      intro e
      have := hl c (by simp)
      rw [e] at this
      omega
    have h2 := ih (fun b hb => hl b (by simp [hb]))
    simp [Lib.indexByte, h1, h2]
theorem IByte_no (s : ByteArray) (hs : s = signsB) (a b : Nat) (x : UInt8) (hx : 128 ≤ x.toNat) (w : World) : Calls Tryz.prog 104 #[.string (s.extract a b), .int .u8 (x.toNat : Int)] w fun e w' => e = .returned (.int .i64 (-1)) ∧ w' = w := by
  refine (IByte_lib (s.extract a b) (x.toNat : Int) w).mono fun e w' ⟨h1, h2⟩ => ⟨?_, h2⟩
  rw [h1]
  have e : ((x.toNat : Int)).toNat.toUInt8 = x := by simp
  rw [e, ib_no _ hx]
  intro c hc
  have := mem_extract hc
  rw [hs] at this
  simp at this
  rcases this with rfl | rfl | rfl <;> decide
theorem IByte_none (c : Int) (w : World) : Calls Tryz.prog 104 #[.string ByteArray.empty, .int .u8 c] w fun e w' => e = .returned (.int .i64 (-1)) ∧ w' = w := IByte_lib ByteArray.empty c w
set_option maxRecDepth 100000 in
set_option maxHeartbeats 8000000 in
theorem IRune_wide (s : ByteArray) (hs : s = signsB) (r : Int) (h0 : 128 ≤ r) (h1 : r < 55296 ∨ 57343 < r) (h2 : r ≤ 1114111) (h3 : r ≠ 65533) (w : World) :
    Calls Tryz.prog 91 #[.string s, .int .i32 r] w fun e w' => ∃ z : Int, e = .returned (.int .i64 z) ∧ Below w.heap.size w w' := by
  have hv : Utf8.valid r = true := by rw [validRune_eq]; unfold validRune; rw [decide_eq_true_eq]; omega
  obtain ⟨f1, f2, f3⟩ := encode_facts r hv h0
  have HV := Lib.hid (ValidRune_yes r (by omega) h1 h2)
  have HIB := Lib.hid (IByte_no s hs)
  have hs3 : s.size = 3 := by rw [hs]; rfl
  have s1 : ∀ h, s[1]'h = 45 := fun h => by subst hs; rfl
  have s2 : ∀ h, s[2]'h = 95 := fun h => by subst hs; rfl
  have k2 : IntKind.i64.wrap 2 = 2 := by decide
  have k3 : IntKind.i64.wrap 3 = 3 := by decide
  have q0 : (0 : Int) ≤ r := by omega
  have q1 : ¬ r < 128 := by omega
  have q2 : (r == 65533) = false := by simpa using h3
  clear hv h0 h1 h2 h3 hs
  obtain ⟨t, ht⟩ : ∃ t, Utf8.encode r = t := ⟨_, rfl⟩
  rw [ht] at f1 f2 f3
  rcases (show t.size = 2 ∨ t.size = 3 ∨ t.size = 4 by omega) with hz | hz | hz
  · obtain ⟨x, hx⟩ : ∃ x, ∀ h, t[1]'h = x := ⟨t[1]'(by omega), fun _ => rfl⟩
    have hx128 : 128 ≤ x.toNat := by
      have := f3 (by omega)
      simp only [hz] at this
      rw [hx] at this
      exact this
    have HX := Lib.hid hx128
    have q3 : ((45 : Int) != (x.toNat : Int)) = true := by simp; omega
    clear f1 f2 f3 hx128
    go_enter Tryz.func91, Tryz.ntmps91
    go_wp2_with fail
    refine (HV.out _).mono ?_
    rintro e w1 ⟨rfl, rfl⟩
    go_wp2_with fail
    go_step3
    go_wp2_with fail
    refine wp_loop_rounds 1 ?_
    rw [rounds_succ]
    go_wp2_with fail
    go_step3
    go_wp2_with fail
    go_quiet (fail)
    go_wp2_with fail
    go_quiet ((go_at_call 104; exact (HIB.out _ _ _ HX.out _).mono (fun _ _ ⟨h1, h2⟩ => ⟨h1, _, h2⟩)))
    go_wp2_with fail
    rw [Exit.noGoto_ret]
    go_wp2_with fail
    rw [Exit.noGoto_ret]
    go_wp2_with fail
    go_ret
    exact ⟨_, rfl, below_drewN0 (Below.refl _ _) _⟩
  · obtain ⟨x, hx⟩ : ∃ x, ∀ h, t[2]'h = x := ⟨t[2]'(by omega), fun _ => rfl⟩
    have hx128 : 128 ≤ x.toNat := by
      have := f3 (by omega)
      simp only [hz] at this
      rw [hx] at this
      exact this
    have HX := Lib.hid hx128
    have q3 : ((95 : Int) != (x.toNat : Int)) = true := by simp; omega
    clear f1 f2 f3 hx128
    go_enter Tryz.func91, Tryz.ntmps91
    go_wp2_with fail
    refine (HV.out _).mono ?_
    rintro e w1 ⟨rfl, rfl⟩
    go_wp2_with fail
    go_step3
    go_wp2_with fail
    refine wp_loop_rounds 1 ?_
    rw [rounds_succ]
    go_wp2_with fail
    go_step3
    go_wp2_with fail
    go_quiet (fail)
    go_wp2_with fail
    go_quiet ((go_at_call 104; exact (IByte_none _ _).mono (fun _ _ ⟨h1, h2⟩ => ⟨h1, _, h2⟩)))
    go_wp2_with fail
    rw [Exit.noGoto_ret]
    go_wp2_with fail
    rw [Exit.noGoto_ret]
    go_wp2_with fail
    go_ret
    exact ⟨_, rfl, below_drewN0 (Below.refl _ _) _⟩
  · clear f3
    go_enter Tryz.func91, Tryz.ntmps91
    go_wp2_with fail
    refine (HV.out _).mono ?_
    rintro e w1 ⟨rfl, rfl⟩
    go_wp2_with fail
    go_step3
    go_wp2_with fail
    refine wp_loop_rounds 1 ?_
    rw [rounds_succ]
    go_wp2_with fail
    rw [Exit.noGoto_ret]
    go_wp2_with fail
    go_ret
    exact ⟨_, rfl, Below.refl _ _⟩
set_option maxRecDepth 100000 in
set_option maxHeartbeats 8000000 in
theorem IRune_err (s : ByteArray) (hs : s = signsB) (w : World) :
    Calls Tryz.prog 91 #[.string s, .int .i32 65533] w fun e w' => ∃ z : Int, e = .returned (.int .i64 z) ∧ Below w.heap.size w w' := by
  have hs3 : s.size = 3 := by rw [hs]; rfl
  have ha := Lib.hid (show ∀ (k : Nat) (h : k < s.size), (s[k]'h).toNat < 128 from fun k h => by
    subst hs
    have hk : k < 3 := h
    rcases (show k = 0 ∨ k = 1 ∨ k = 2 by omega) with rfl | rfl | rfl
    · show (43 : UInt8).toNat < 128; decide
    · show (45 : UInt8).toNat < 128; decide
    · show (95 : UInt8).toNat < 128; decide)
  clear hs
  go_enter Tryz.func91, Tryz.ntmps91
  go_wp2_with fail
  go_loopw [] (fun wr => ∃ (pos : Nat), pos ≤ 3 ∧ Hid (wr.heap[w.heap.size]? = some (.stringIter s pos)) ∧ Hid (Below w.heap.size w wr)) (fun wr => 3 - wr.iterPos w.heap.size)
  case atStart => exact ⟨0, by omega, Lib.hid (World.iter_heap w s 0), Lib.hid ((Below.refl _ w).alloc (Nat.le_refl _) _)⟩
  case round =>
    obtain ⟨pos, hp, HI, HB⟩ := hrel
    by_cases h1 : pos < s.size
    · have h8 := ha.out pos h1
      have hnx := fun ty => Lib.run_next_ascii_at (P := Tryz.prog) wr w.heap.size s pos ty HI.out h1 h8
      generalize (s[pos]'h1).toNat = x at *
      have q := show ((x : Int) == 65533) = false from by simp; omega
      have HI2 := Lib.hid (Lib.iterAt_heap wr w.heap.size s pos (pos + 1) HI.out)
      have HB2 := Lib.hid (Lib.below_iterAt HB.out (k := w.heap.size) (Nat.le_refl _) s (pos + 1))
      have HM : Hid (3 - (wr.iterAt w.heap.size s (pos + 1)).iterPos w.heap.size < 3 - wr.iterPos w.heap.size) := Lib.hid (by
        simp only [World.iterPos, HI2.out, HI.out]
        omega)
      generalize wr.iterAt w.heap.size s (pos + 1) = w2 at *
      go_wp2_with fail
      go_roundw
      case rel => exact ⟨pos + 1, by omega, HI2, HB2⟩
      case measure => exact HM.out
    · have hnx := fun ty => Lib.run_next_end_at (P := Tryz.prog) wr w.heap.size s pos ty HI.out h1
      go_wp2_with fail
      go_ret
      exact ⟨_, rfl, HB.out⟩
theorem IRune_any (r : Int) (h0 : 0 ≤ r) (h1 : r < 55296 ∨ 57343 < r) (h2 : r ≤ 1114111) (w : World) :
    Calls Tryz.prog 91 #[.string signsB, .int .i32 r] w fun e w' => ∃ z : Int, e = .returned (.int .i64 z) ∧ Below w.heap.size w w' := by
  by_cases h3 : r < 128
  · exact (IRune_ascii signsB r w h0 h3).mono fun e w' ⟨h4, h5⟩ => ⟨_, h4, by rw [h5]; exact Below.refl _ _⟩
  by_cases h4 : r = 65533
  · subst h4
    exact IRune_err signsB rfl w
  exact IRune_wide signsB rfl r (by omega) h1 h2 h4 w
theorem decode_ok (s : ByteArray) (i : Nat) : ((Utf8.decode s i).1 < 55296 ∨ 57343 < (Utf8.decode s i).1) ∧ (Utf8.decode s i).1 ≤ 1114111 := by
  have hv : ∀ c : Nat, Utf8.valid (c : Int) = true → (c < 55296 ∨ 57343 < c) ∧ c ≤ 1114111 := fun c h => by
    rw [validRune_eq] at h
    unfold validRune at h
    rw [decide_eq_true_eq] at h
    omega
  unfold Utf8.decode Utf8.runeError
  simp only
  split
  · simp only; omega
  · split
    · split
      · simp only; omega
      · simp only; omega
    · split
      · split
        · rename_i h
          simp only [Bool.and_eq_true] at h
          exact hv _ h.2
        · simp only; omega
      · split
        · split
          · rename_i h
            simp only [Bool.and_eq_true] at h
            exact hv _ h.2
          · simp only; omega
        · simp only; omega
set_option maxRecDepth 100000 in
set_option maxHeartbeats 8000000 in
theorem IAny_any (s : ByteArray) (h8 : s.size ≤ 8) (w : World) :
    Calls Tryz.prog 120 #[.string s, .string signsB] w fun e w' => ∃ z : Int, e = .returned (.int .i64 z) ∧ Below w.heap.size w w' := by
  have h8z : decide ((8 : Int) < (s.size : Int)) = false := decide_eq_false (by omega)
  have HSh := Lib.hid (fun W => Should_lib (s.size : Int) W)
  rw [h8z] at HSh
  have HR := Lib.hid IRune_any
  obtain ⟨sb, hsb⟩ : ∃ sb : ByteArray, sb = signsB := ⟨_, rfl⟩
  have hs3 : sb.size = 3 := by rw [hsb]; rfl
  have hem : sb.toList.isEmpty = false := Lz.empty_not (by omega)
  rw [← hsb] at HR ⊢
  clear hsb
  go_enter Tryz.func120, Tryz.ntmps120
  go_wp2_with fail
  refine (HSh.out _).mono ?_
  rintro e w1 ⟨rfl, rfl⟩
  go_wp2_with fail
  go_loopw [] (fun wr => ∃ (pos : Nat), pos ≤ s.size ∧ Hid (wr.heap[w1.heap.size]? = some (.stringIter s pos)) ∧ Hid (Below w1.heap.size w1 wr)) (fun wr => s.size - wr.iterPos w1.heap.size)
  case atStart => exact ⟨0, by omega, Lib.hid (World.iter_heap w1 s 0), Lib.hid ((Below.refl _ w1).alloc (Nat.le_refl _) _)⟩
  case round =>
    obtain ⟨pos, hp, HI, HB⟩ := hrel
    by_cases h1 : pos < s.size
    · have hnx := fun ty => Lib.run_next_any_at (P := Tryz.prog) wr w1.heap.size s pos ty HI.out h1
      obtain ⟨d1, d2⟩ := decode_ok s pos
      have d3 := Lib.decodeL_width (s.data.toList.drop pos)
      have hln : (s.data.toList.drop pos).length = s.size - pos := by rw [List.length_drop, Array.length_toList]; rfl
      have d4 := Lib.decodeL_le (s.data.toList.drop pos) (fun e => by rw [e] at hln; simp at hln; omega)
      rw [hln] at d4
      rw [Lib.decodeL_drop] at d3 d4
      have HR2 := Lib.hid (HR.out ((Utf8.decode s pos).1 : Int) (by omega) (by omega) (by omega))
      have HI2 := Lib.hid (Lib.iterAt_heap wr w1.heap.size s pos (pos + (Utf8.decode s pos).2) HI.out)
      have HB2 := Lib.hid (Lib.below_iterAt HB.out (k := w1.heap.size) (Nat.le_refl _) s (pos + (Utf8.decode s pos).2))
      have HM : Hid (∀ W : World, W.heap[w1.heap.size]? = some (.stringIter s (pos + (Utf8.decode s pos).2)) → s.size - W.iterPos w1.heap.size < s.size - wr.iterPos w1.heap.size) := Lib.hid (fun W h => by
        simp only [World.iterPos, h, HI.out]
        omega)
      have hpn : pos + (Utf8.decode s pos).2 ≤ s.size := by omega
      generalize wr.iterAt w1.heap.size s (pos + (Utf8.decode s pos).2) = w2 at *
      generalize pos + (Utf8.decode s pos).2 = pos2 at *
      generalize (Utf8.decode s pos).1 = r at *
      clear d1 d2 d3 d4
      go_wp2_with fail
      refine (HR2.out _).mono ?_
      rintro e w3 ⟨z, rfl, hb3⟩
      have HI3 := Lib.hid ((hb3.block _ (Array.getElem?_eq_some_iff.1 HI2.out).1).trans HI2.out)
      have HB3 := Lib.hid (HB2.out.trans (hb3.mono HB2.out.size))
      clear hb3
      by_cases hz : 0 ≤ z
      · go_wp2_with fail
        go_ret
        exact ⟨_, rfl, HB3.out⟩
      · go_wp2_with fail
        go_roundw
        case rel => exact ⟨pos2, hpn, HI3, HB3⟩
        case measure => exact HM.out _ HI3.out
    · have hnx := fun ty => Lib.run_next_end_at (P := Tryz.prog) wr w1.heap.size s pos ty HI.out h1
      go_wp2_with fail
      go_ret
      exact ⟨_, rfl, HB.out⟩
set_option maxHeartbeats 1000000 in
theorem CAny_any (s : ByteArray) (h8 : s.size ≤ 8) (w : World) :
    Calls Tryz.prog 116 #[.string s, .string signsB] w fun e w' => ∃ b : Bool, e = .returned (.bool b) ∧ Below w.heap.size w w' := by
  have HI := Lib.hid (IAny_any s h8)
  go_enter Tryz.func116, Tryz.ntmps116
  go_wp2_with fail
  refine (HI.out _).mono ?_
  rintro e w3 ⟨z, rfl, hb3⟩
  have HB := Lib.hid hb3
  clear hb3
  go_wp2_with fail
  go_ret
  exact ⟨_, rfl, HB.out⟩
end Go.Proofs.YtamclieppbnpiabGreatDoor
/-
  A strings.Builder written to: a byte, a text, a rune; what stays beside it. Shape: the shelf's walks of them, turned to this program.
-/
namespace Go.Proofs.YtamclieppbnpiabGreatDoor
open Go Go.RowKit Go.Shelf
open Lz (copyCheck_fresh copyCheck_used sizeBu)

abbrev tB : TypeId := 73
abbrev tU : TypeId := 5
abbrev Kept (b : Nat) (w w' : World) : Prop := Lib.OthersKept tU (some b) w w'
theorem infoU : (Tryz.prog.info? 5).map (fun i => (i.zero, i.size, i.bytes)) = some (some (.int .u8 0), 1, 1) := by kernel_rfl
theorem neBU : tB ≠ tU := by decide
theorem copyCheck_k (B b : Nat) (bs : List Value) (w : World) (h : Lib.IsBuilderF tB tU B b bs w) :
    Calls Tryz.prog 51 #[.pointer (some ⟨b, 0, none⟩)] w fun e w' => e = .returned (.tuple #[]) ∧ Lib.BuilderAtF tB tU B b (.pointer (some ⟨b, 0, none⟩)) bs w' ∧ Below B w w' ∧ Kept b w w' := by
  rcases h with h | h
  · refine (copyCheck_fresh b w h.cell0 h.shape h.frozen0).mono ?_
    rintro e w' ⟨rfl, rfl⟩
    exact ⟨rfl, h.used _, (Below.refl B w).setCell (p := ⟨b, 0, none⟩) h.1 _, (Lib.OthersKept.refl _ _ w).setCell ⟨b, 0, none⟩ rfl _⟩
  · refine (copyCheck_used b w h.cell0).mono ?_
    rintro e w' ⟨rfl, rfl⟩
    exact ⟨rfl, h, Below.refl B _, Lib.OthersKept.refl _ _ _⟩

set_option maxHeartbeats 2000000 in
set_option maxRecDepth 100000 in
theorem writeByte_k (B b : Nat) (bs : List Value) (c : Int) (w : World) (h : Lib.IsBuilderF tB tU B b bs w) (hlen : bs.length + 1 ≤ 140737488355328) (hBw : B ≤ w.heap.size) :
    Calls Tryz.prog 30 #[.pointer (some ⟨b, 0, none⟩), .int .u8 c] w fun e w' => e = .returned .nilIface ∧ Lib.BuilderAtF tB tU B b (.pointer (some ⟨b, 0, none⟩)) (bs ++ [.int .u8 c]) w' ∧ Below B w w' ∧ Kept b w w' := by
  obtain ⟨i0, hi, hz0, hz1, hz2⟩ := info_parts infoU
  go_enter Tryz.func30, Tryz.ntmps30
  go_wp2_with fail
  refine (copyCheck_k B b bs _ h).mono ?_
  rintro e w1 ⟨rfl, h1, hb1, hm1⟩
  obtain ⟨hB, v, hbk, hown, hne⟩ := h1
  have c0 : w1.cell? ⟨b, 0, none⟩ = some (.pointer (some ⟨b, 0, none⟩)) := by rw [Lib.cell_of_heap hbk]; rfl
  have c1 : w1.cell? ⟨b, 1, none⟩ = some v := by rw [Lib.cell_of_heap hbk]; rfl
  go_wp2_with (at_builtin; refine wpList_append_ownF _ rfl _ _ 71 rfl B tU i0 (.int .u8 0) 1 1 Tryz.underlying71 hi hz0 hz1 hz2 rfl (by decide) _ _ _ rfl (hown.alloc _) ⟨w1.heap.size, 0, none⟩ 1 1 [.int .u8 c] rfl rfl ?c1 ?c2 ?c3 ?c4 ?c5 ?_)
  case c1 =>
    intro j u hj
    match j, hj with
    | 0, hj => simp at hj; subst hj; simp [Addr.add]
  case c2 => intro u hu; simp at hu; subst hu; rfl
  case c3 => unfold maxLen; omega
  case c4 => omega
  case c5 => have := hb1.size; simp; omega
  intro v' w2 hown' hgrow _
  have hlt : b < w1.heap.size := by
    rcases Nat.lt_or_ge b w1.heap.size with h' | h'
    · exact h'
    · simp [Array.getElem?_eq_none h'] at hbk
  have hb2 : w2.heap[b]? = some (.cells #[.pointer (some ⟨b, 0, none⟩), v] tB (0, 0)) := by
    rw [hgrow.block b (by simp; omega) (fun e => hne e.symm), Lib.alloc_old w1 _ b hlt]
    exact hbk
  have d0 : w2.cell? ⟨b, 0, none⟩ = some (.pointer (some ⟨b, 0, none⟩)) := by rw [Lib.cell_of_heap hb2]; rfl
  have d1 : w2.cell? ⟨b, 1, none⟩ = some v := by rw [Lib.cell_of_heap hb2]; rfl
  have f1 : w2.frozen? ⟨b, 1, none⟩ = false := Lib.frozen_of_heap hb2 1
  obtain ⟨g, cap, rfl⟩ : ∃ g cap, v' = .slice (some ⟨g, 0, none⟩) (bs.length + 1) cap := by
    rcases hown'.2 with ⟨_, h0⟩ | ⟨g, cap, cur, fz, hv, _⟩
    · omega
    · exact ⟨g, cap, hv⟩
  go_wp2
  go_ret
  refine ⟨rfl, ?_, ?_, ((hm1.alloc _).grown hgrow (Lib.ownsRowF_kind (hown.alloc _))).setCell ⟨b, 1, none⟩ rfl _⟩
  · exact Lib.BuilderAtF.put (T := tB) (e := tU) hB hb2 (bs' := bs ++ [.int .u8 c]) (by simpa using hown') (by decide)
  · exact ((hb1.alloc (by have := hb1.size; omega) _).grown hgrow (by have := hb1.size; simp; omega) (fun k hk => (hown.lt k hk).1)).setCell (p := ⟨b, 1, none⟩) hB _

set_option maxHeartbeats 2000000 in
set_option maxRecDepth 100000 in
theorem writeString_k (B b : Nat) (bs : List Value) (s : ByteArray) (w : World) (h : Lib.IsBuilderF tB tU B b bs w) (hlen : bs.length + s.size ≤ 140737488355328) (hBw : B ≤ w.heap.size) :
    Calls Tryz.prog 31 #[.pointer (some ⟨b, 0, none⟩), .string s] w fun e w' => e = .returned (.tuple #[.int .i64 s.size, .nilIface]) ∧ Lib.BuilderAtF tB tU B b (.pointer (some ⟨b, 0, none⟩)) (bs ++ Lib.strCells s) w' ∧ Below B w w' ∧ Kept b w w' := by
  obtain ⟨i0, hi, hz0, hz1, hz2⟩ := info_parts infoU
  go_enter Tryz.func31, Tryz.ntmps31
  go_wp2_with fail
  refine (copyCheck_k B b bs _ h).mono ?_
  rintro e w1 ⟨rfl, h1, hb1, hm1⟩
  obtain ⟨hB, v, hbk, hown, hne⟩ := h1
  have c0 : w1.cell? ⟨b, 0, none⟩ = some (.pointer (some ⟨b, 0, none⟩)) := by rw [Lib.cell_of_heap hbk]; rfl
  have c1 : w1.cell? ⟨b, 1, none⟩ = some v := by rw [Lib.cell_of_heap hbk]; rfl
  go_wp2_with (at_builtin; refine Lib.wpList_append_own_stringF _ rfl _ _ 71 9 rfl B tU i0 Tryz.underlying71 Tryz.underlying9 hi hz0 hz1 hz2 _ _ _ rfl hown s rfl ?c3 ?c4 ?c5 ?_)
  case c3 => unfold maxLen; omega
  case c4 => omega
  case c5 => have := hb1.size; omega
  intro v' w2 hown' hgrow _
  have hlt : b < w1.heap.size := by
    rcases Nat.lt_or_ge b w1.heap.size with h' | h'
    · exact h'
    · simp [Array.getElem?_eq_none h'] at hbk
  have hb2 : w2.heap[b]? = some (.cells #[.pointer (some ⟨b, 0, none⟩), v] tB (0, 0)) := by
    rw [hgrow.block b hlt (fun e => hne e.symm)]
    exact hbk
  have d0 : w2.cell? ⟨b, 0, none⟩ = some (.pointer (some ⟨b, 0, none⟩)) := by rw [Lib.cell_of_heap hb2]; rfl
  have d1 : w2.cell? ⟨b, 1, none⟩ = some v := by rw [Lib.cell_of_heap hb2]; rfl
  have f1 : w2.frozen? ⟨b, 1, none⟩ = false := Lib.frozen_of_heap hb2 1
  obtain ⟨ao, n', cap, rfl⟩ : ∃ ao n' cap, v' = .slice ao n' cap := by
    rcases hown'.2 with ⟨hv, _⟩ | ⟨g, cap, cur, fz, hv, _⟩
    · exact ⟨_, _, _, hv⟩
    · exact ⟨_, _, _, hv⟩
  go_wp2
  go_ret2
  refine ⟨rfl, ?_, ?_, (hm1.grown hgrow (Lib.ownsRowF_kind hown)).setCell ⟨b, 1, none⟩ rfl _⟩
  · exact Lib.BuilderAtF.put (T := tB) (e := tU) hB hb2 (bs' := bs ++ Lib.strCells s) (by simpa [Lib.strCells_length] using hown') (by decide)
  · exact (hb1.grown hgrow (by have := hb1.size; omega) (fun k hk => (hown.lt k hk).1)).setCell (p := ⟨b, 1, none⟩) hB _

set_option maxHeartbeats 4000000 in
set_option maxRecDepth 100000 in
theorem writeRune_k (B b : Nat) (bs : List Value) (r : Int) (hr0 : -2147483648 ≤ r) (hr1 : r ≤ 2147483647) (w : World) (h : Lib.IsBuilderF tB tU B b bs w) (hlen : bs.length + 4 ≤ 140737488355328) (hBw : B ≤ w.heap.size) :
    Calls Tryz.prog 32 #[.pointer (some ⟨b, 0, none⟩), .int .i32 r] w fun e w' => e = .returned (.tuple #[.int .i64 (Lib.runeCells r).length, .nilIface]) ∧ Lib.BuilderAtF tB tU B b (.pointer (some ⟨b, 0, none⟩)) (bs ++ Lib.runeCells r) w' ∧ Below B w w' ∧ Kept b w w' := by
  have hk4 := Lib.runeCells_le r
  go_enter Tryz.func32, Tryz.ntmps32
  go_wp2_with fail
  refine (copyCheck_k B b bs _ h).mono ?_
  rintro e w1 ⟨rfl, h1, hb1, hk1⟩
  obtain ⟨hB, v, hbk, hown, hne⟩ := h1
  obtain ⟨ao, cap, rfl⟩ : ∃ ao cap, v = .slice ao bs.length cap := by
    rcases hown.2 with ⟨hv, h0⟩ | ⟨g, cap, cur, fz, hv, _⟩
    · exact ⟨none, 0, by rw [hv, h0]⟩
    · exact ⟨_, _, hv⟩
  have c0 : w1.cell? ⟨b, 0, none⟩ = some (.pointer (some ⟨b, 0, none⟩)) := by rw [Lib.cell_of_heap hbk]; rfl
  have c1 : w1.cell? ⟨b, 1, none⟩ = some (.slice ao bs.length cap) := by rw [Lib.cell_of_heap hbk]; rfl
  have HR := Lib.hid (Lay_utf8_AppendRune_row B _ bs.length bs r hr0 hr1 w1 hown hlen (by have := hb1.size; omega))
  go_wp2_with fail
  refine HR.out.mono ?_
  rintro e w2 ⟨v', rfl, hown', o, hgrow⟩
  have hlt : b < w1.heap.size := by
    rcases Nat.lt_or_ge b w1.heap.size with h' | h'
    · exact h'
    · simp [Array.getElem?_eq_none h'] at hbk
  have hb2 : w2.heap[b]? = some (.cells #[.pointer (some ⟨b, 0, none⟩), .slice ao bs.length cap] tB (0, 0)) := by
    rw [hgrow.block b (by simp; omega) (fun e => hne e.symm), Lib.alloc_old w1 _ b hlt]
    exact hbk
  have d0 : w2.cell? ⟨b, 0, none⟩ = some (.pointer (some ⟨b, 0, none⟩)) := by rw [Lib.cell_of_heap hb2]; rfl
  have d1 : w2.cell? ⟨b, 1, none⟩ = some (.slice ao bs.length cap) := by rw [Lib.cell_of_heap hb2]; rfl
  have f1 : w2.frozen? ⟨b, 1, none⟩ = false := Lib.frozen_of_heap hb2 1
  obtain ⟨g, cap', rfl⟩ : ∃ g cap', v' = .slice (some ⟨g, 0, none⟩) (bs.length + (Lib.runeCells r).length) cap' := by
    rcases hown'.2 with ⟨_, h0⟩ | ⟨g, cap', cur, fz, hv, _⟩
    · omega
    · exact ⟨g, cap', hv⟩
  go_wp2_with fail
  go_ret2
  refine ⟨?_, ?_, ?_, ((hk1.alloc _).grown hgrow (Lib.ownsRowF_kind (hown.alloc _))).setCell ⟨b, 1, none⟩ rfl _⟩
  · have e : ((bs.length : Int) + ((Lib.runeCells r).length : Int) - (bs.length : Int)) = ((Lib.runeCells r).length : Int) := by omega
    simp [e]
  · exact Lib.BuilderAtF.put (T := tB) (e := tU) hB hb2 (bs' := bs ++ Lib.runeCells r) (by simpa using hown') neBU
  · exact ((hb1.alloc (by have := hb1.size; omega) _).grown hgrow (by have := hb1.size; simp; omega) (fun k hk => (hown.lt k hk).1)).setCell (p := ⟨b, 1, none⟩) hB _
/-- A builder stays one where its block and its row stay. -/
theorem builder_stay {B b R : Nat} {bs : List Value} {w w' : World} (h : Lib.IsBuilderF tB tU B b bs w) (hk : Lz.KeptBut w.heap.size R w w') (hR : R < B) : Lib.IsBuilderF tB tU B b bs w' := by
  have main : ∀ p, Lib.BuilderAtF tB tU B b p bs w → Lib.BuilderAtF tB tU B b p bs w' := by
    rintro p ⟨hB, v, hb, hown, hne⟩
    have hlt := (Array.getElem?_eq_some_iff.1 hb).1
    refine ⟨hB, v, (hk.block b hlt (by omega)).trans hb, ⟨hown.1, ?_⟩, hne⟩
    rcases hown.2 with hn | ⟨g, cap, cur, fz, hv, hbg, hg, rest⟩
    · exact .inl hn
    · exact .inr ⟨g, cap, cur, fz, hv, hbg, (hk.block g (Array.getElem?_eq_some_iff.1 hg).1 (by omega)).trans hg, rest⟩
  exact h.elim (fun x => .inl (main _ x)) (fun x => .inr (main _ x))
end Go.Proofs.YtamclieppbnpiabGreatDoor
