/-
  What the program has laid that layer 18 reads; the library's functions at it.
-/
import Derived.Test.YtamclieppbnpiabGreatDoorProg
import Derived.Test.YtamclieppbnpiabGreatDoorReg
import Derived.WalkKit
import Derived.WalkSpells
import Derived.WalkLawsBesides
import Derived.Lib.Hide
import Derived.Lib.MinMax
import Derived.Deep.QuietTactic
import Derived.BigQuiet
import Derived.OwnWalk
import Derived.Deep.AppendLies
import Derived.KernelRfl
import Derived.Lib.LaidTab
import Derived.Lib.SlTrimSet
import Derived.Shelf.Unicode.ValidAny
import Derived.Shelf.Strings.SlTrimAscii
import Derived.Test.YtamclieppbnpiabGreatDoorJsLay
import Derived.Test.YtamclieppbnpiabGreatDoorJw5
import Derived.Laws.RangeAny
import Derived.Test.YtamclieppbnpiabGreatDoorLzM1
set_option linter.unusedSimpArgs false
set_option linter.unusedVariables false
namespace Go.Proofs.YtamclieppbnpiabGreatDoor
open Go Go.RowKit Go.Sort Go.Shelf
open Fz (HoldsS)

theorem gPow : Tryz.prog.globalNamed "internal/strconv.uint64pow10" = some 4 := by kernel_rfl
abbrev errS (a : Addr) : Value := .iface 179 (.pointer (some a))
/-- What is laid. -/
structure WJ (a : Addr) (w : World) : Prop where
  err : w.cell? ⟨0, 0, none⟩ = some (errS a)
  et : w.cell? ⟨3, 0, none⟩ = some (.iface 117 (.agg #[.pointer (some ⟨10, 44, none⟩)]))
  syn : ∃ tp p, w.cell? ⟨5, 0, none⟩ = some (.iface tp p)
  rng : ∃ tp p, w.cell? ⟨6, 0, none⟩ = some (.iface tp p)
  pow : Lib.TabIs Tryz.prog w "internal/strconv.uint64pow10" .u64 Lib.pow10Tab
  tabs : Lib.Utf8Tabs 1 2 w
  low : 9 ≤ w.heap.size
theorem cell_same {w w' : World} {b o : Nat} {f : Option Nat} (h : w'.heap[b]? = w.heap[b]?) : w'.cell? ⟨b, o, none⟩ = w.cell? ⟨b, o, none⟩ := by
  unfold World.cell?
  simp only [h]
theorem WJ.stay {a : Addr} {w w' : World} (h : WJ a w) (hs : w.heap.size ≤ w'.heap.size) (hb : ∀ k, k < 9 → w'.heap[k]? = w.heap[k]?) : WJ a w' where
  err := (cell_same (f := none) (hb _ (by decide))).trans h.err
  et := (cell_same (f := none) (hb _ (by decide))).trans h.et
  syn := by obtain ⟨t, p, hm⟩ := h.syn; exact ⟨t, p, (cell_same (f := none) (hb _ (by decide))).trans hm⟩
  rng := by obtain ⟨t, p, hm⟩ := h.rng; exact ⟨t, p, (cell_same (f := none) (hb _ (by decide))).trans hm⟩
  pow := by
    have hp := h.pow
    unfold Lib.TabIs at hp ⊢
    rw [← hp]
    unfold World.var?
    rw [gPow]
    simp only [Option.bind_some]
    rw [hb _ (by decide)]
  tabs := ⟨fun c hc => (cell_same (f := none) (hb _ (by decide))).trans (h.tabs.1 c hc), fun i hi => ⟨(cell_same (f := none) (hb _ (by decide))).trans (h.tabs.2 i hi).1, (cell_same (f := none) (hb _ (by decide))).trans (h.tabs.2 i hi).2⟩⟩
  low := Nat.le_trans h.low hs
theorem WJ.below {a : Addr} {w w' : World} {m : Nat} (h : WJ a w) (hb : Below m w w') (hm : 9 ≤ m) : WJ a w' := h.stay hb.size (fun k hk => hb.block k (by omega))
theorem WJ.keep {a : Addr} {w w' : World} (h : WJ a w) (hb : Below w.heap.size w w') : WJ a w' := h.below hb h.low
theorem WJ.but {a : Addr} {w w' : World} {m T : Nat} (h : WJ a w) (hb : Lz.KeptBut m T w w') (hm : 9 ≤ m) (hT : 9 ≤ T) : WJ a w' := h.stay hb.size (fun k hk => hb.block k (by omega) (by omega))
theorem but_mono {m n T : Nat} {w w' : World} (h : Lz.KeptBut m T w w') (hn : n ≤ m) : Lz.KeptBut n T w w' := ⟨h.os, h.tape, h.output, h.size, fun k hk hne => h.block k (by omega) hne⟩
theorem but_trans {n T : Nat} {a b c : World} (h1 : Lz.KeptBut n T a b) (h2 : Lz.KeptBut b.heap.size T b c) (hn : n ≤ b.heap.size) : Lz.KeptBut n T a c := h1.trans (but_mono h2 hn)
/-- A block of one's own is no matter of those that were. -/
theorem but_below {m T : Nat} {w w' : World} (h : Lz.KeptBut m T w w') (hT : m ≤ T) : Below m w w' := ⟨h.os, h.tape, h.output, h.size, fun k hk => h.block k hk (by omega)⟩

/-! ### The library -/
theorem takeP_iff {p : List UInt8} : ∀ {l q : List UInt8}, takeP p l = some q ↔ l = p ++ q := by
  induction p with
  | nil => intro l q; simp [takeP]
  | cons a p ih =>
    intro l q
    cases l with
    | nil => simp [takeP]
    | cons c l =>
      simp only [takeP, List.cons_append, List.cons.injEq]
      by_cases h : a = c
      · rw [if_pos h, ih]; simp [h]
      · rw [if_neg h]; simp [Ne.symm h]
theorem prefix_some {p l q : List UInt8} (h : takeP p l = some q) : Lib.hasPrefix l p = true ∧ Lib.trimPrefix l p = q := by
  have e := takeP_iff.1 h
  subst e
  have h1 : Lib.hasPrefix (p ++ q) p = true := by
    unfold Lib.hasPrefix
    rw [List.isPrefixOf_iff_prefix]
    exact ⟨q, rfl⟩
  refine ⟨h1, ?_⟩
  unfold Lib.trimPrefix
  rw [if_pos h1]
  simp
theorem prefix_none {p l : List UInt8} (h : takeP p l = none) : Lib.hasPrefix l p = false ∧ Lib.trimPrefix l p = l := by
  have h1 : Lib.hasPrefix l p = false := by
    cases hh : Lib.hasPrefix l p with
    | false => rfl
    | true =>
      unfold Lib.hasPrefix at hh
      obtain ⟨q, hq⟩ := List.isPrefixOf_iff_prefix.1 hh
      have := (takeP_iff (p := p) (l := l) (q := q)).2 hq.symm
      rw [h] at this
      cases this
  refine ⟨h1, ?_⟩
  unfold Lib.trimPrefix
  rw [h1]
  simp
theorem Cut_lib (l p : List UInt8) (w : World) :
    Calls Tryz.prog 80 #[.string (bs l), .string (bs p)] w fun e w' => e = .returned (.tuple #[.string (bs ((takeP p l).getD l)), .bool (takeP p l).isSome]) ∧ w' = w := by
  refine (Lay_strings_CutPrefix (bs l) (bs p) w).mono fun e w' ⟨h1, h2⟩ => ⟨?_, h2⟩
  rw [h1, bs_list, bs_list]
  cases h : takeP p l with
  | none => obtain ⟨a, b⟩ := prefix_none h; rw [a, b]; rfl
  | some q => obtain ⟨a, b⟩ := prefix_some h; rw [a, b]; rfl
theorem TrimP_lib (l p : List UInt8) (w : World) :
    Calls Tryz.prog 60 #[.string (bs l), .string (bs p)] w fun e w' => e = .returned (.string (bs ((takeP p l).getD l))) ∧ w' = w := by
  refine (Lay_strings_TrimPrefix (bs l) (bs p) w).mono fun e w' ⟨h1, h2⟩ => ⟨?_, h2⟩
  rw [h1, bs_list, bs_list]
  cases h : takeP p l with
  | none => obtain ⟨a, b⟩ := prefix_none h; rw [b]; rfl
  | some q => obtain ⟨a, b⟩ := prefix_some h; rw [b]; rfl
theorem ascii_all {l : List UInt8} (h : ∀ b ∈ l, b.toNat < 128) : ∀ (j : Nat) b, (bs l).data.toList[j]? = some b → b.toNat < 128 := fun j b hb => h b (by rw [bs_list] at hb; exact List.mem_of_getElem? hb)
theorem TrimL_lib (l cs : List UInt8) (w : World) (hl : cs.length ≤ 1000) (ha : ∀ b ∈ cs, b.toNat < 128) :
    Calls Tryz.prog 34 #[.string (bs l), .string (bs cs)] w fun e w' => e = .returned (.string (bs (l.dropWhile (cs.contains ·)))) ∧ Below w.heap.size w w' := by
  refine (Any.strings_TrimLeft_laid Lay_lays161 (by kernel_rfl) (bs l) (bs cs) w (by rw [bs_size]; omega) (ascii_all ha)).mono fun e w' ⟨h1, h2⟩ => ⟨?_, h2⟩
  rw [h1, bs_list, bs_list]
  rfl
theorem skip_lib (l : List UInt8) (w : World) : Calls Tryz.prog 34 #[.string (bs l), .string (bs [32, 9, 10, 13])] w fun e w' => e = .returned (.string (bs (skipL l))) ∧ Below w.heap.size w w' := by
  have e : (fun c => ([32, 9, 10, 13] : List UInt8).contains c) = isWs := by
    funext c
    have := byte_all (p := fun c => ([32, 9, 10, 13] : List UInt8).contains c == isWs c) (by decide +kernel) c
    exact beq_iff_eq.1 this
  refine (TrimL_lib l [32, 9, 10, 13] w (by decide) (by decide)).mono fun e' w' ⟨h1, h2⟩ => ⟨?_, h2⟩
  rw [h1, e]
  rfl
theorem digs_lib (l : List UInt8) (w : World) : Calls Tryz.prog 34 #[.string (bs l), .string (bs [48, 49, 50, 51, 52, 53, 54, 55, 56, 57])] w fun e w' => e = .returned (.string (bs (l.dropWhile isDg))) ∧ Below w.heap.size w w' := by
  have e : (fun c => ([48, 49, 50, 51, 52, 53, 54, 55, 56, 57] : List UInt8).contains c) = isDg := by
    funext c
    have := byte_all (p := fun c => ([48, 49, 50, 51, 52, 53, 54, 55, 56, 57] : List UInt8).contains c == isDg c) (by decide +kernel) c
    exact beq_iff_eq.1 this
  refine (TrimL_lib l [48, 49, 50, 51, 52, 53, 54, 55, 56, 57] w (by decide) (by decide)).mono fun e' w' ⟨h1, h2⟩ => ⟨?_, h2⟩
  rw [h1, e]
def Lay_lays196_ren : Go.Shelf.Ren := ⟨fun | 196 => 16 | 259 => 29 | n => n, fun | 9 => 9 | 3 => 3 | 4 => 4 | 5 => 5 | 0 => 0 | 12 => 12 | 46 => 69 | 53 => 100 | 119 => 65 | 138 => 67 | 139 => 68 | n => n, fun | 3 => 1 | 4 => 2 | n => n⟩
theorem Lay_lays196 : Go.Proofs.Lays.n196 Tryz.prog Lay_lays196_ren := {
  mixed := by kernel_rfl
  f196 := Tryz.func16.trans (congrArg some (by kernel_rfl))
  f259 := Tryz.func29.trans (congrArg some (by kernel_rfl))
  t0 := Tryz.underlying0
  a0 := Tryz.isAgg0
  z0 := Tryz.sizeOf0
  v0 := Tryz.zeroValue0
  t3 := Tryz.underlying3
  a3 := Tryz.isAgg3
  z3 := Tryz.sizeOf3
  v3 := Tryz.zeroValue3
  t4 := Tryz.underlying4
  a4 := Tryz.isAgg4
  z4 := Tryz.sizeOf4
  v4 := Tryz.zeroValue4
  t5 := Tryz.underlying5
  a5 := Tryz.isAgg5
  z5 := Tryz.sizeOf5
  v5 := Tryz.zeroValue5
  t9 := Tryz.underlying9
  a9 := Tryz.isAgg9
  z9 := Tryz.sizeOf9
  v9 := Tryz.zeroValue9
  t12 := Tryz.underlying12
  a12 := Tryz.isAgg12
  z12 := Tryz.sizeOf12
  v12 := Tryz.zeroValue12
  t46 := Tryz.underlying69
  a46 := Tryz.isAgg69
  z46 := Tryz.sizeOf69
  v46 := Tryz.zeroValue69
  t53 := Tryz.underlying100
  a53 := Tryz.isAgg100
  z53 := Tryz.sizeOf100
  v53 := Tryz.zeroValue100
  t119 := Tryz.underlying65
  a119 := Tryz.isAgg65
  z119 := Tryz.sizeOf65
  t138 := Tryz.underlying67
  a138 := Tryz.isAgg67
  z138 := Tryz.sizeOf67
  v138 := Tryz.zeroValue67
  t139 := Tryz.underlying68
  a139 := Tryz.isAgg68
  z139 := Tryz.sizeOf68
  v139 := Tryz.zeroValue68
  g3 := by kernel_rfl
  g4 := by kernel_rfl }
theorem Valid_lib (s : ByteArray) (a : Addr) (w : World) (hs : s.size ≤ 1000000000) (h : WJ a w) :
    Calls Tryz.prog 16 #[.string s] w fun e w' => e = .returned (.bool (validB s)) ∧ Below w.heap.size w w' :=
  Any.utf8_ValidString Lay_lays196 s w (by omega) h.tabs
theorem grow_low (w : World) (k : Nat) (os : Array Obj) : Below w.heap.size w (grow (w.drewN k) os) :=
  ⟨rfl, rfl, rfl, by simp [grow], fun j hj => by
    show (w.heap ++ os)[j]? = w.heap[j]?
    rw [Array.getElem?_append_left hj]⟩
theorem Format_lib (n : Int) (a : Addr) (w : World) (hn : InI n) (h : WJ a w) :
    Calls Tryz.prog 27 #[.int .i64 n, .int .i64 10] w fun e w' => e = .returned (.string (bs (Lib.itoa n))) ∧ Below w.heap.size w w' :=
  (Lay_strconv_FormatInt_10 n hn.1 hn.2 w h.pow).mono fun e w' ⟨h1, k, os, h2⟩ => ⟨h1, by rw [h2]; exact grow_low w k os⟩
/-- 'ParseInt' of a text. -/
theorem Parse_lib (l : List UInt8) (a : Addr) (w : World) (hs : l.length ≤ 1000000000) (h : WJ a w) :
    Calls Tryz.prog 61 #[.string (bs l), .int .i64 10, .int .i64 64] w fun e w' => Below w.heap.size w w' ∧
      ((∃ m : Int, Lib.parseIntB 64 l = .ok m ∧ e = .returned (.tuple #[.int .i64 m, .nilIface])) ∨
       ((∀ m, Lib.parseIntB 64 l ≠ .ok m) ∧ ∃ (n : Int) (t : TypeId) (p : Value), e = .returned (.tuple #[.int .i64 n, .iface t p]))) := by
  have hsz : (bs l).size ≤ 1000000000 := by rw [bs_size]; exact hs
  have hl := bs_list l
  rcases hr : Lib.parseIntB 64 l with m | _ | _
  · refine (Lay_strconv_ParseInt_10_at64_ok (bs l) (by omega) m (by rw [hl]; exact hr) w).mono fun e w' ⟨h1, h2⟩ => ⟨?_, .inl ⟨m, rfl, h1⟩⟩
    rcases h2 with rfl | ⟨t, rfl⟩
    · exact Below.refl _ _
    · exact Lib.bytesWorld_below w _ t
  · obtain ⟨tp, p, hc⟩ := h.syn
    refine (Lay_strconv_ParseInt_10_at64_bad (bs l) (by omega) (by rw [hl, hr]; exact ⟨fun m => by simp, by simp⟩) (.iface tp p) w hc (.inr ⟨_, _, rfl⟩)).mono fun e w' ⟨N, h1, _, _, h2⟩ => ⟨h2, .inr ⟨fun m => by simp, 0, _, _, h1⟩⟩
  · obtain ⟨tp, p, hc⟩ := h.rng
    refine (Lay_strconv_ParseInt_10_at64_range (bs l) (by omega) (by rw [hl]; exact hr) (.iface tp p) w hc (.inr ⟨_, _, rfl⟩)).mono fun e w' ⟨N, h1, _, _, h2⟩ => ⟨h2, .inr ⟨fun m => by simp, _, _, _, h1⟩⟩
theorem Bool_lib (b : Bool) (w : World) : Calls Tryz.prog 26 #[.bool b] w fun e w' => e = .returned (.string (bs (if b then [116, 114, 117, 101] else [102, 97, 108, 115, 101]))) ∧ w' = w := by
  refine (Lay_strconv_FormatBool b w).mono fun e w' ⟨h1, h2⟩ => ⟨?_, h2⟩
  rw [h1]
  cases b <;> rfl
/-- Decoding. -/
theorem Decode_lib (l : List UInt8) (a : Addr) (w : World) (hne : l ≠ []) (h : WJ a w) :
    Calls Tryz.prog 75 #[.string (bs l)] w fun e w' => e = .returned (.tuple #[.int .i32 (Lib.decodeL l).1, .int .i64 (Lib.decodeL l).2]) ∧ Below w.heap.size w w' := by
  have hd : Lib.decodeGo (bs l) = Lib.decodeL l := by
    unfold Lib.decodeGo
    have := List.length_pos_iff.2 hne
    rw [if_neg (by rw [bs_size]; omega)]
    rfl
  have := Lay_utf8_DecodeRuneInString (bs l) w h.tabs
  rw [hd] at this
  exact this
theorem Decode_none (a : Addr) (w : World) (h : WJ a w) :
    Calls Tryz.prog 75 #[.string (bs [])] w fun e w' => e = .returned (.tuple #[.int .i32 65533, .int .i64 0]) ∧ Below w.heap.size w w' := by
  have hd : Lib.decodeGo (bs []) = (65533, 0) := rfl
  have := Lay_utf8_DecodeRuneInString (bs []) w h.tabs
  rw [hd] at this
  exact this
/-- Is a text one of some? -/
theorem inB_iff {k : ByteArray} : ∀ {l : List ByteArray}, inB k l = true ↔ k ∈ l
  | [] => by simp [inB]
  | x :: l => by
    simp only [inB, Bool.or_eq_true, decide_eq_true_eq, List.mem_cons, inB_iff]
    constructor
    · rintro (h | h); exact .inl h.symm; exact .inr h
    · rintro (h | h); exact .inl h.symm; exact .inr h
end Go.Proofs.YtamclieppbnpiabGreatDoor
/-
  The reader's small steps.
-/
namespace Go.Proofs.YtamclieppbnpiabGreatDoor
open Go Go.RowKit Go.Sort Go.Shelf
open Fz (HoldsS)

abbrev tR : TypeId := 51
/-- The reader at R: what is left, in how many others, the first that is wrong. -/
def RdAt (w : World) (R : Nat) (l : List UInt8) (n : Int) (ev : Value) : Prop := w.heap[R]? = some (.cells #[.string (bs l), .int .i64 n, ev] tR (0, 0))
section
variable {w w' : World} {R : Nat} {l : List UInt8} {n : Int} {ev : Value}
theorem RdAt.c0 (h : RdAt w R l n ev) : w.cell? ⟨R, 0, none⟩ = some (.string (bs l)) := by simp [World.cell?, show w.heap[R]? = _ from h]
theorem RdAt.c1 (h : RdAt w R l n ev) : w.cell? ⟨R, 1, none⟩ = some (.int .i64 n) := by simp [World.cell?, show w.heap[R]? = _ from h]
theorem RdAt.c2 (h : RdAt w R l n ev) : w.cell? ⟨R, 2, none⟩ = some ev := by simp [World.cell?, show w.heap[R]? = _ from h]
theorem RdAt.lt (h : RdAt w R l n ev) : R < w.heap.size := (Array.getElem?_eq_some_iff.1 h).1
theorem RdAt.z (h : RdAt w R l n ev) (j : Nat) : w.frozen? ⟨R, j, none⟩ = false := frozen_of_row w R j _ _ h
theorem RdAt.put0 (h : RdAt w R l n ev) (m : List UInt8) : RdAt (w.setCell ⟨R, 0, none⟩ (.string (bs m))) R m n ev := by
  unfold RdAt at h ⊢
  rw [heap_setCell_same _ _ _ _ _ _ h]
  simp
theorem RdAt.put1 (h : RdAt w R l n ev) (m : Int) : RdAt (w.setCell ⟨R, 1, none⟩ (.int .i64 m)) R l m ev := by
  unfold RdAt at h ⊢
  rw [heap_setCell_same _ _ _ _ _ _ h]
  simp
theorem RdAt.put2 (h : RdAt w R l n ev) (m : Value) : RdAt (w.setCell ⟨R, 2, none⟩ m) R l n m := by
  unfold RdAt at h ⊢
  rw [heap_setCell_same _ _ _ _ _ _ h]
  simp
theorem RdAt.below (h : RdAt w R l n ev) (hb : Below w.heap.size w w') : RdAt w' R l n ev := (hb.block R h.lt).trans h
theorem RdAt.keep {m : Nat} (h : RdAt w R l n ev) (hb : Below m w w') (hm : R < m) : RdAt w' R l n ev := (hb.block R hm).trans h
end
/-- What is wrong. -/
def errV (a : Addr) (why : Int) : Value := .iface 59 (.agg #[.int .i64 why, errS a])
def firstB : List UInt8 → Nat
  | [] => 0
  | c :: _ => c.toNat
theorem but_below' {m T : Nat} {w w' : World} (h : Below m w w') : Lz.KeptBut m T w w' := .of_below h (Nat.le_refl _)
/-- What a step of the reader leaves. -/
def Steps (w w' : World) (R : Nat) (l : List UInt8) (n : Int) (ev : Value) : Prop := RdAt w' R l n ev ∧ Lz.KeptBut w.heap.size R w w'
theorem Steps.trans {w w1 w2 : World} {R : Nat} {l l2 : List UInt8} {n n2 : Int} {ev ev2 : Value} (h1 : Steps w w1 R l n ev) (h2 : Steps w1 w2 R l2 n2 ev2) : Steps w w2 R l2 n2 ev2 := ⟨h2.1, but_trans h1.2 h2.2 h1.2.size⟩

set_option maxHeartbeats 1000000 in
theorem skip_any (R : Nat) (l : List UInt8) (n : Int) (ev : Value) (w : World) (h : RdAt w R l n ev) :
    Calls Tryz.prog 18 #[.pointer (some ⟨R, 0, none⟩)] w fun e w' => e = .returned (.tuple #[]) ∧ Steps w w' R (skipL l) n ev := by
  have c0 := h.c0
  have lR := h.lt
  have HS := Lib.hid (skip_lib l)
  go_enter Tryz.func18, Tryz.ntmps18
  go_wp2_with fail
  refine (HS.out _).mono ?_
  rintro e w1 ⟨rfl, hb⟩
  have h1 := h.below hb
  have z0 := h1.z 0
  have lR1 := h1.lt
  have c01 := h1.c0
  have HF := Lib.hid (show Steps w (w1.setCell ⟨R, 0, none⟩ (.string (bs (skipL l)))) R (skipL l) n ev from ⟨h1.put0 _, (but_below' hb).trans (Lz.KeptBut.setT _ _ _ _ _)⟩)
  go_wp2_with fail
  go_end0
  exact ⟨rfl, HF.out⟩
set_option maxHeartbeats 1000000 in
theorem first_any (R : Nat) (l : List UInt8) (w : World) (h : w.cell? ⟨R, 0, none⟩ = some (.string (bs l))) :
    Calls Tryz.prog 38 #[.pointer (some ⟨R, 0, none⟩)] w fun e w' => e = .returned (.int .u8 (firstB l)) ∧ w' = w := by
  have lR := cell_lt h
  cases l with
  | nil =>
    have q : (bs []).toList.isEmpty = true := Lz.empty_is rfl
    go_enter Tryz.func38, Tryz.ntmps38
    go_wp2_with fail
    go_ret
    exact ⟨rfl, rfl⟩
  | cons c r =>
    have q : (bs (c :: r)).toList.isEmpty = false := Lz.empty_not (by rw [bs_size]; simp)
    have hz : (bs (c :: r)).size = r.length + 1 := by rw [bs_size]; simp
    have i0 : (0 : Int) < ((bs (c :: r)).size : Int) := by omega
    go_enter Tryz.func38, Tryz.ntmps38
    go_wp2_with fail
    go_ret
    exact ⟨rfl, rfl⟩
set_option maxHeartbeats 1000000 in
theorem take_any (R : Nat) (p l : List UInt8) (n : Int) (ev : Value) (w : World) (h : RdAt w R l n ev) :
    Calls Tryz.prog 59 #[.pointer (some ⟨R, 0, none⟩), .string (bs p)] w fun e w' => e = .returned (.bool (takeP p l).isSome) ∧ Steps w w' R ((takeP p l).getD l) n ev := by
  have c0 := h.c0
  have lR := h.lt
  have HS := Lib.hid (Cut_lib l p)
  have z0 := h.z 0
  have HF := Lib.hid (show Steps w (w.setCell ⟨R, 0, none⟩ (.string (bs ((takeP p l).getD l)))) R ((takeP p l).getD l) n ev from ⟨h.put0 _, Lz.KeptBut.setT _ _ _ _ _⟩)
  generalize (takeP p l).isSome = b at *
  generalize (takeP p l).getD l = q at *
  go_enter Tryz.func59, Tryz.ntmps59
  go_wp2_with fail
  refine (HS.out _).mono ?_
  rintro e w1 ⟨rfl, rfl⟩
  go_wp2_with fail
  go_ret
  exact ⟨rfl, HF.out⟩
set_option maxHeartbeats 1000000 in
theorem fail_new (a : Addr) (R : Nat) (why : Int) (l : List UInt8) (n : Int) (w : World) (h : RdAt w R l n .nilIface) (hW : WJ a w) :
    Calls Tryz.prog 20 #[.pointer (some ⟨R, 0, none⟩), .int .i64 why] w fun e w' => e = .returned (.tuple #[]) ∧ Steps w w' R l n (errV a why) := by
  have c2 := h.c2
  have lR := h.lt
  have z2 := h.z 2
  have ce := hW.err
  have le := cell_lt ce
  simp only at le
  have HF := Lib.hid (show Steps w (w.setCell ⟨R, 2, none⟩ (errV a why)) R l n (errV a why) from ⟨h.put2 _, Lz.KeptBut.setT _ _ _ _ _⟩)
  unfold errV at HF
  go_enter Tryz.func20, Tryz.ntmps20
  go_wp2_with fail
  go_end0
  exact ⟨rfl, HF.out⟩
set_option maxHeartbeats 1000000 in
theorem fail_old (a : Addr) (R : Nat) (why c : Int) (l : List UInt8) (n : Int) (w : World) (h : RdAt w R l n (errV a c)) :
    Calls Tryz.prog 20 #[.pointer (some ⟨R, 0, none⟩), .int .i64 why] w fun e w' => e = .returned (.tuple #[]) ∧ Steps w w' R l n (errV a c) := by
  have c2 := h.c2
  have lR := h.lt
  have HF := Lib.hid (show Steps w w R l n (errV a c) from ⟨h, Lz.KeptBut.refl _ _ _⟩)
  unfold errV at HF c2
  go_enter Tryz.func20, Tryz.ntmps20
  go_wp2_with fail
  go_end0
  exact ⟨rfl, HF.out⟩
end Go.Proofs.YtamclieppbnpiabGreatDoor
