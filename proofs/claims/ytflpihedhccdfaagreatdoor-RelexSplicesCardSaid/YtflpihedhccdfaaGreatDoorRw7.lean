/-
  What the statements of layer 5 show: by the program.
-/
import Derived.Test.YtflpihedhccdfaaGreatDoorProg
import Derived.Test.YtflpihedhccdfaaGreatDoorReg
import Derived.WalkKit
import Derived.WalkSpells
import Derived.WalkLawsBesides
import Derived.Lib.Hide
import Derived.Lib.MinMax
import Derived.Deep.QuietTactic
import Derived.BigQuiet
import Derived.OwnWalk
import Derived.Deep.AppendLies
import Derived.KernelRfl
import Derived.Test.YtflpihedhccdfaaGreatDoorRw6
import Derived.Test.YtflpihedhccdfaaGreatDoorRw4
import Derived.Test.YtflpihedhccdfaaGreatDoorLxM11
import Derived.Test.YtflpihedhccdfaaGreatDoorLxM12
import Derived.Test.YtflpihedhccdfaaGreatDoorRw2
import Derived.Test.YtflpihedhccdfaaGreatDoorLxM2
set_option linter.unusedSimpArgs false
set_option linter.unusedVariables false
namespace Go.Proofs.YtflpihedhccdfaaGreatDoor
open Go Go.RowKit

def shT : ByteArray := ⟨#[97, 10, 98, 99, 100, 10, 101]⟩
def shS : ByteArray := ⟨#[10, 49]⟩
def shU : ByteArray := ⟨#[97, 10, 98, 10, 49, 10, 101]⟩
theorem sh1 : (piecesB shT).length = 3 ∧ (piecesB shU).length = 4 ∧ (piecesB shU)[2]? = some ⟨#[49]⟩ ∧ dLine ⟨#[49]⟩ = [⟨3, ⟨#[49]⟩, ⟨#[49]⟩⟩] := by decide +kernel
theorem sh2 : textS shT 3 2 shS = shU ∧ (doneS shT 3 2 shS).fro = 1 ∧ (doneS shT 3 2 shS).old = 1 ∧ (doneS shT 3 2 shS).new = 2 ∧ errS shT 3 2 shS = 0 := by decide +kernel
theorem sh3 : textS shU 9 0 ⟨#[]⟩ = shU ∧ doneS shU 9 0 ⟨#[]⟩ = noChg ∧ errS shU 9 0 ⟨#[]⟩ = 10 := by decide +kernel

set_option maxRecDepth 100000 in
set_option maxHeartbeats 8000000 in
theorem shown_any (a d : Addr) (w : World) (hT : Tabs w) (hL : Laid5 a d w) :
    Calls Tryz.prog 9 #[] w fun e w' => e = .returned (.bool true) ∧ Below w.heap.size w w' := by
  have H1 : Hid (Calls Tryz.prog 11 #[.string ⟨#[97, 10, 98, 99, 100, 10, 101]⟩] w fun e w' => e = .returned (.tuple #[.pointer (some ⟨w.heap.size, 0, none⟩), .int .i64 0]) ∧ IsLexB w' w.heap.size w.heap.size shT 3 ∧ Below w.heap.size w w') :=
    Lib.hid ((New_any shT w (by decide) hT).mono fun e w' ⟨h1, h2, h3⟩ => ⟨h1, by rw [sh1.1] at h2; exact h2.lex, h3⟩)
  have H2 : Hid (∀ W, Below w.heap.size w W → IsLexB W w.heap.size w.heap.size shT 3 → Calls Tryz.prog 12 #[.pointer (some ⟨w.heap.size, 0, none⟩), .int .i64 3, .int .i64 2, .string ⟨#[10, 49]⟩] W fun e w' =>
      e = .returned (.tuple #[.agg #[.int .i64 1, .int .i64 1, .int .i64 2], .int .i64 0]) ∧ IsLexB w' w.heap.size w.heap.size shU 5 ∧ Below w.heap.size w w' ∧ W.heap.size ≤ w'.heap.size ∧ OthersL W w') := Lib.hid fun W hb hx =>
    (Splice_low w.heap.size w.heap.size w.heap.size shT 3 3 2 shS a d w W hx (by decide) (by decide) (by decide) (by decide) (hT.below hb) (hL.below hb) hb (Nat.le_refl _) (Nat.le_refl _) hb.size).mono fun e w' ⟨h1, h2, h3⟩ => by
      obtain ⟨k1, k2, k3, k4, k5⟩ := sh2
      refine ⟨?_, ?_, h3⟩
      · rw [h1, k5]
        unfold Chg.val
        rw [k2, k3, k4]
        rfl
      · rw [k1, k4] at h2
        exact h2
  have H3 : Hid (∀ W, Below w.heap.size w W → IsLexB W w.heap.size w.heap.size shU 5 → Calls Tryz.prog 12 #[.pointer (some ⟨w.heap.size, 0, none⟩), .int .i64 9, .int .i64 0, .string ⟨#[]⟩] W fun e w' =>
      e = .returned (.tuple #[.agg #[.int .i64 0, .int .i64 0, .int .i64 0], .int .i64 10]) ∧ Below W.heap.size W w') := Lib.hid fun W hb hx => by
    obtain ⟨v, ls, hx⟩ := hx
    exact Splice_range w.heap.size shU 5 9 0 ⟨#[]⟩ a d W hx.is (by decide) (hL.below hb) (by decide) (by decide)
  have H4 : Hid (∀ W, IsLexB W w.heap.size w.heap.size shU 5 → Calls Tryz.prog 17 #[.pointer (some ⟨w.heap.size, 0, none⟩), .int .i64 2] W fun e w' => ∃ A c, e = .returned (.slice A 1 c) ∧ HoldsT w' A [⟨3, ⟨#[49]⟩, ⟨#[49]⟩⟩] ∧ Below W.heap.size W w') := Lib.hid fun W hx =>
    (Line_in w.heap.size shU ⟨#[49]⟩ 5 2 W hx.is (by decide) sh1.2.2.1).mono fun e w' ⟨v, h1, h2, h3⟩ => by
      rw [sh1.2.2.2] at h2
      obtain ⟨A, c, rfl, -, hH, -⟩ := holdsT_of_own h2
      exact ⟨A, c, h1, hH, h3⟩
  have H5 : Hid (∀ W, IsLexB W w.heap.size w.heap.size shU 5 → Calls Tryz.prog 15 #[.pointer (some ⟨w.heap.size, 0, none⟩)] W fun e w' => e = .returned (.int .i64 4) ∧ w' = W) := Lib.hid fun W hx =>
    (Lines_any w.heap.size shU 5 W hx.is (by decide)).mono fun e w' ⟨h1, h2⟩ => ⟨by rw [h1, sh1.2.1]; rfl, h2⟩
  have H6 : Hid (∀ W, IsLexB W w.heap.size w.heap.size shU 5 → Calls Tryz.prog 14 #[.pointer (some ⟨w.heap.size, 0, none⟩)] W fun e w' => e = .returned (.int .i64 5) ∧ w' = W) := Lib.hid fun W hx =>
    Lexed_any w.heap.size shU 5 W hx.is (by decide)
  have H7 : Hid (∀ W, IsLexB W w.heap.size w.heap.size shU 5 → Calls Tryz.prog 13 #[.pointer (some ⟨w.heap.size, 0, none⟩)] W fun e w' => e = .returned (.string ⟨#[97, 10, 98, 10, 49, 10, 101]⟩) ∧ Below W.heap.size W w') := Lib.hid fun W hx =>
    Text_lex w.heap.size shU 5 W hx.is (by decide)
  clear hT hL
  go_enter Tryz.func9, Tryz.ntmps9
  go_wp2_with fail
  refine H1.out.mono ?_
  rintro e w1 ⟨rfl, hx1, hb1⟩
  have S1 := Lib.hid (H2.out w1 hb1 hx1)
  have hs1 := hb1.size
  clear H1 H2 hx1 hb1
  go_wp2_with fail
  refine S1.out.mono ?_
  rintro e w2 ⟨rfl, hx2, hb2, hz2, -⟩
  have hbA := below_new w2 (.cells #[.int .i64 1, .int .i64 1, .int .i64 2] 29)
  have hx3 := hx2.below hbA
  have hb3 := hb2.trans (hbA.mono hb2.size)
  have hr3 := heap_alloc_new w2 (.cells #[.int .i64 1, .int .i64 1, .int .i64 2] 29)
  have hz3 : (w2.alloc (.cells #[.int .i64 1, .int .i64 1, .int .i64 2] 29)).heap.size = w2.heap.size + 1 := by simp
  have S2 := Lib.hid (H4.out _ hx3)
  have HX3 := Lib.hid hx3
  have HB3 := Lib.hid hb3
  have HR3 := Lib.hid hr3
  have HZ3 := Lib.hid hz3
  have hs2 := hb2.size
  clear S1 hx2 hb2 hbA hx3 hb3 hr3 hz3 hz2 H4
  go_wp2_with fail
  refine S2.out.mono ?_
  rintro e w4 ⟨A4, c4, rfl, hH4, hb4⟩
  have hx4 := HX3.out.below hb4
  have hB4 := HB3.out.trans (hb4.mono HB3.out.size)
  have hr4 := (hb4.block w2.heap.size (by rw [HZ3.out]; omega)).trans HR3.out
  have hs4 : w2.heap.size + 1 ≤ w4.heap.size := by have := hb4.size; rw [HZ3.out] at this; exact this
  have S3 := Lib.hid (H3.out w4 hB4 hx4)
  have HX4 := Lib.hid hx4
  have HB4 := Lib.hid hB4
  have HR4 := Lib.hid hr4
  have HH4 := Lib.hid hH4
  clear S2 hx4 hB4 hr4 hb4 HX3 HB3 HR3 HZ3 H3 hH4
  go_wp2_with fail
  refine S3.out.mono ?_
  rintro e w5 ⟨rfl, hb5⟩
  have hbA := below_new w5 (.cells #[.int .i64 0, .int .i64 0, .int .i64 0] 29)
  have hb6 := hb5.trans (hbA.mono hb5.size)
  have hx6 := HX4.out.below hb6
  have hB6 := HB4.out.trans (hb6.mono HB4.out.size)
  have hr6 := (hb6.block w2.heap.size (by omega)).trans HR4.out
  have hH6 := HH4.out.below hb6
  have hs5 := hb5.size
  obtain ⟨W6, hW6⟩ : ∃ W6, w5.alloc (.cells #[.int .i64 0, .int .i64 0, .int .i64 0] 29) = W6 := ⟨_, rfl⟩
  rw [hW6] at hx6 hB6 hr6 hH6
  obtain ⟨b6, off6, rfl, e0, e1, e2⟩ := hH6 0 _ rfl
  rw [Nat.zero_mul, Nat.add_zero] at e0 e1 e2
  have x0 : W6.cell? ⟨w2.heap.size, 0, none⟩ = some (.int .i64 1) := by simp [World.cell?, hr6]
  have x1 : W6.cell? ⟨w2.heap.size, 1, none⟩ = some (.int .i64 1) := by simp [World.cell?, hr6]
  have x2 : W6.cell? ⟨w2.heap.size, 2, none⟩ = some (.int .i64 2) := by simp [World.cell?, hr6]
  have S4 := Lib.hid (H5.out W6 hx6)
  have S5 := Lib.hid (H6.out W6 hx6)
  have S6 := Lib.hid (H7.out W6 hx6)
  have HB6 := Lib.hid hB6
  have HW6 := Lib.hid hW6
  clear hx6 hB6 hr6 hH6 hbA hb5 hb6 H5 H6 H7 S3 HX4 HB4 HR4 HH4 hW6
  go_upto_region 5 with fail
  rw [HW6.out]
  clear HW6
  go_wp2_with fail
  refine S4.out.mono ?_
  rintro e w7 ⟨rfl, rfl⟩
  go_wp2_with fail
  refine S5.out.mono ?_
  rintro e w8 ⟨rfl, rfl⟩
  go_wp2_with fail
  refine S6.out.mono ?_
  rintro e w9 ⟨rfl, hb9⟩
  have B9 := Lib.hid (HB6.out.trans (hb9.mono HB6.out.size))
  clear hb9
  go_wp2_with fail
  go_ret
  exact ⟨rfl, B9.out⟩
end Go.Proofs.YtflpihedhccdfaaGreatDoor
/-
  The calls of the laws of layer 5, opened; a list of splices done, plainly.
-/
namespace Go.Proofs.YtflpihedhccdfaaGreatDoor
open Go Go.RowKit

/-- A slice that holds these tokens. -/
def GivesT (l : List Tok) (e : Ending) (w w' : World) : Prop := ∃ A c, e = .returned (.slice A l.length c) ∧ HoldsT w' A l ∧ l.length ≤ c ∧ Below w.heap.size w w'
theorem gives_of {l : List Tok} {base : Nat} {w w' : World} {v : Value} (h : w'.ownsRow base 55 3 v l.length (tokCells l)) (hb : Below w.heap.size w w') : GivesT l (.returned v) w w' := by
  obtain ⟨A, c, rfl, _, h1, h2⟩ := holdsT_of_own h
  exact ⟨A, c, rfl, h1, h2, hb⟩
theorem TokensC (X : Nat) (t : ByteArray) (q : Int) (w : World) (h : IsLex w X t q) (ht : t.size ≤ 4000) : Calls Tryz.prog 23 #[.pointer (some ⟨X, 0, none⟩)] w fun e w' => GivesT (tokensS t) e w w' :=
  (Tokens_lex X t q w h ht).mono fun e w' ⟨v, he, ho, hb⟩ => by subst he; exact gives_of ho hb
theorem LineC (X : Nat) (t p : ByteArray) (q : Int) (k : Nat) (w : World) (h : IsLex w X t q) (ht : t.size ≤ 4000) (hp : (piecesB t)[k]? = some p) : Calls Tryz.prog 17 #[.pointer (some ⟨X, 0, none⟩), .int .i64 k] w fun e w' => GivesT (dLine p) e w w' :=
  (Line_in X t p q k w h ht hp).mono fun e w' ⟨v, he, ho, hb⟩ => by subst he; exact gives_of ho hb
theorem tokensS_len (t : ByteArray) : (tokensS t).length ≤ t.size + 1 := by
  have h := toksOf_len (piecesB t)
  rw [sum_join _ (pieces_ne t), join_pieces, bytes_len] at h
  exact h
/-- What a lexer is behind splices: the text is no longer than allowed, the number is small. -/
structure StateL (w : World) (K base X : Nat) (k : Nat) (t : ByteArray) (q : Int) : Prop where
  lex : IsLexB w base X t q
  size : t.size ≤ 4000
  num : 0 ≤ q ∧ q ≤ 5000 + 5000 * k
theorem StateL.below {w w' : World} {K base X k : Nat} {t : ByteArray} {q : Int} (h : StateL w K base X k t q) (hb : Below w.heap.size w w') : StateL w' K base X k t q := ⟨h.lex.below hb, h.size, h.num⟩
/-- One splice more. -/
theorem Splice_state (K base X k : Nat) (t : ByteArray) (q p n : Int) (s : ByteArray) (a d : Addr) (w0 w : World) (h : StateL w K base X k t q) (hk : k ≤ 100) (hs : s.size ≤ 4010)
    (hn : -9223372036854775808 ≤ n ∧ n ≤ 9223372036854775807) (hT : Tabs w) (hL : Laid5 a d w) (hB : Below K w0 w) (hK : K ≤ base) (hX : K ≤ X) (hw : K ≤ w.heap.size) :
    Calls Tryz.prog 12 #[.pointer (some ⟨X, 0, none⟩), .int .i64 p, .int .i64 n, .string s] w fun e w' =>
      e = .returned (.tuple #[.agg #[.int .i64 ((doneS t p n s).fro : Int), .int .i64 ((doneS t p n s).old : Int), .int .i64 ((doneS t p n s).new : Int)], .int .i64 (errS t p n s)]) ∧
      StateL w' K base X (k + 1) (textS t p n s) (q + (doneS t p n s).new) ∧ Below K w0 w' ∧ w.heap.size ≤ w'.heap.size ∧ OthersL w w' :=
  (Splice_low K base X t q p n s a d w0 w h.lex h.size (by have := h.num; omega) (by omega) hn hT hL hB hK hX hw).mono fun e w' ⟨h1, h2, h3, h4⟩ =>
    ⟨h1, ⟨h2, textS_size h.size, by have h5 := new_le t p n s; have h6 := h.num; omega⟩, h3, h4⟩
/-- A new lexer. -/
theorem New_state (s : ByteArray) (w : World) (hs : s.size ≤ 4000) (hT : Tabs w) (K : Nat) (hK : K ≤ w.heap.size) :
    Calls Tryz.prog 11 #[.string s] w fun e w' => e = .returned (.tuple #[.pointer (some ⟨w.heap.size, 0, none⟩), .int .i64 0]) ∧ StateL w' K w.heap.size w.heap.size 0 s (piecesB s).length ∧ Below w.heap.size w w' :=
  (New_any s w hs hT).mono fun e w' ⟨h1, h2, h3⟩ => ⟨h1, ⟨h2.lex, hs, by have := pieces_le s; omega⟩, h3⟩
/-- The splices that are looked at. -/
theorem few_good {l : List Act5} (h : ∀ (k : Nat) (x : Act5), l[k]? = some x → x.s.size ≤ maxLen ∧ (-9223372036854775808 ≤ x.n ∧ x.n ≤ 9223372036854775807)) (m : Nat) :
    (fewTo5 l m).length ≤ m ∧ ∀ (k : Nat) (x : Act5), (fewTo5 l m)[k]? = some x → x.s.size ≤ 4010 ∧ (-9223372036854775808 ≤ x.n ∧ x.n ≤ 9223372036854775807) := by
  constructor
  · unfold fewTo5
    rw [List.length_map, List.length_take]
    omega
  · intro k x hx
    unfold fewTo5 at hx
    rw [List.getElem?_map] at hx
    cases hl : (l.take m)[k]? with
    | none => rw [hl] at hx; cases hx
    | some y =>
      rw [hl] at hx
      cases hx
      have hy : l[k]? = some y := by
        rw [List.getElem?_take] at hl
        split at hl
        · exact hl
        · cases hl
      exact ⟨cut4010_size y.s, (h k y hy).2⟩
theorem done_facts (t : ByteArray) (p n : Int) (s : ByteArray) : ((doneS t p n s).fro + (doneS t p n s).old ≤ (piecesB t).length) ∧ (errS t p n s = 0 → (doneS t p n s).new = (piecesB s).length) ∧ (errS t p n s ≠ 0 → doneS t p n s = noChg) := by
  unfold doneS
  by_cases h : errS t p n s = 0
  · rw [if_pos h]
    obtain ⟨h1, h2, h3, _⟩ := err_right h
    obtain ⟨_, _, _, h4, _, _⟩ := chg_lines (t := t) (s := s) (p := p.toNat) (n := n.toNat) (by omega)
    exact ⟨h4, fun _ => rfl, fun h' => absurd h h'⟩
  · rw [if_neg h]
    exact ⟨Nat.zero_le _, fun h' => absurd h' h, fun _ => rfl⟩
theorem StateL.set3 {w : World} {K base X k : Nat} {t : ByteArray} {q : Int} (h : StateL w K base X k t q) {r : Nat} {cs : Array Value} (hr : w.heap[r]? = some (.cells cs 29 (0, 0))) (b1 b2 b3 : Value) :
    StateL (((w.setCell ⟨r, 0, none⟩ b1).setCell ⟨r, 1, none⟩ b2).setCell ⟨r, 2, none⟩ b3) K base X k t q := by
  obtain ⟨v, ls, hv⟩ := h.lex
  exact ⟨⟨v, ls, hv.set3 hr (by decide) (by decide) (by decide) b1 b2 b3⟩, h.size, h.num⟩
theorem own_set3 {w : World} {base size n : Nat} {T T2 : TypeId} {z : Value} {xs : List Value} (h : w.ownsRow base T size z n xs) {r : Nat} {cs : Array Value} {fr : Nat × Nat} (hr : w.heap[r]? = some (.cells cs T2 fr)) (hne : T2 ≠ T) (b1 b2 b3 : Value) :
    (((w.setCell ⟨r, 0, none⟩ b1).setCell ⟨r, 1, none⟩ b2).setCell ⟨r, 2, none⟩ b3).ownsRow base T size z n xs :=
  h.kept (row := some r) ⟨rfl, rfl, rfl, by simp, fun k hk hn => by
    have e : k ≠ r := fun e => hn (by rw [e])
    rw [heap_setCell_other _ _ _ _ e, heap_setCell_other _ _ _ _ e, heap_setCell_other _ _ _ _ e]⟩ (Or.inr (own_apart_cells h hr hne))
theorem below_set3 {K : Nat} {w0 w : World} (h : Below K w0 w) {r : Nat} (hr : K ≤ r) (b1 b2 b3 : Value) : Below K w0 (((w.setCell ⟨r, 0, none⟩ b1).setCell ⟨r, 1, none⟩ b2).setCell ⟨r, 2, none⟩ b3) :=
  ((h.setCell (p := ⟨r, 0, none⟩) hr b1).setCell (p := ⟨r, 1, none⟩) hr b2).setCell (p := ⟨r, 2, none⟩) hr b3
end Go.Proofs.YtflpihedhccdfaaGreatDoor
/-
  A splice by the reference of layer 1.
-/
namespace Go.Proofs.YtflpihedhccdfaaGreatDoor
open Go.RowKit

theorem putS_is (t s : ByteArray) (p n : Nat) (_ : p + n ≤ t.size) : t.extract 0 p ++ s ++ t.extract (p + n) t.size = putS t p n s := bytes_eq (by
  unfold putS
  rw [toB_data]
  simp only [ByteArray.data_append, ByteArray.data_extract, Array.toList_append, Array.toList_extract, List.extract_eq_take_drop, Nat.sub_zero, List.drop_zero]
  rw [List.take_of_length_le (l := t.data.toList.drop (p + n)) (by rw [List.length_drop, bytes_len]; exact Nat.le_refl _)])

set_option maxRecDepth 100000 in
set_option maxHeartbeats 4000000 in
theorem refSplice_any (t s : ByteArray) (p n : Int) (w : World) (ht : t.size ≤ 4010) (hs : s.size ≤ 1000000) (hn : -9223372036854775808 ≤ n ∧ n ≤ 9223372036854775807) :
    Calls Tryz.prog 34 #[.string t, .int .i64 p, .int .i64 n, .string s] w fun e w' => e = .returned (.tuple #[.string (textS t p n s), .int .i64 (errS t p n s)]) ∧ Below w.heap.size w w' := by
  by_cases hr : p < 0 ∨ p > t.size ∨ n < 0 ∨ n > t.size - p
  · have he : errS t p n s = 10 := by unfold errS; rw [if_pos hr]
    have hx : textS t p n s = t := by unfold textS; rw [he]; rfl
    rw [he, hx]
    by_cases g1 : p < 0
    · clear hr he hx
      go_enter Tryz.func34, Tryz.ntmps34
      go_wp2_with fail
      go_ret2
      exact ⟨rfl, Below.refl _ _⟩
    · by_cases g2 : (t.size : Int) < p
      · clear hr he hx
        go_enter Tryz.func34, Tryz.ntmps34
        go_wp2_with fail
        go_ret2
        exact ⟨rfl, Below.refl _ _⟩
      · by_cases g3 : n < 0
        · clear hr he hx
          go_enter Tryz.func34, Tryz.ntmps34
          go_wp2_with fail
          go_ret2
          exact ⟨rfl, Below.refl _ _⟩
        · have g4 : (t.size : Int) - p < n := by omega
          clear hr he hx
          go_enter Tryz.func34, Tryz.ntmps34
          go_wp2_with fail
          go_ret2
          exact ⟨rfl, Below.refl _ _⟩
  · have g1 : ¬ p < 0 := by omega
    have g2 : ¬ (t.size : Int) < p := by omega
    have g3 : ¬ n < 0 := by omega
    have g4 : ¬ (t.size : Int) - p < n := by omega
    by_cases hf : (t.size : Int) - n + s.size > 4000
    · have he : errS t p n s = 11 := by unfold errS; rw [if_neg hr, if_pos hf]
      have hx : textS t p n s = t := by unfold textS; rw [he]; rfl
      have g5 : (4000 : Int) < (t.size : Int) - n + s.size := hf
      rw [he, hx]
      clear hr he hx hf
      go_enter Tryz.func34, Tryz.ntmps34
      go_wp2_with fail
      go_ret2
      exact ⟨rfl, Below.refl _ _⟩
    · have he : errS t p n s = 0 := by unfold errS; rw [if_neg hr, if_neg hf]
      have hx : textS t p n s = putS t p.toNat n.toNat s := by unfold textS; rw [if_pos he]
      have g5 : ¬ (4000 : Int) < (t.size : Int) - n + s.size := hf
      have hput := putS_is t s p.toNat n.toNat (by omega)
      rw [he, hx, ← hput]
      have e1 : p.toNat + n.toNat = (p + n).toNat := by omega
      rw [e1]
      have q1 : (0 : Int) ≤ p := by omega
      have q2 : p ≤ (t.size : Int) := by omega
      have q3 : (0 : Int) ≤ p + n := by omega
      have q4 : p + n ≤ (t.size : Int) := by omega
      clear hr he hx hf hput e1
      go_enter Tryz.func34, Tryz.ntmps34
      go_wp2_with fail
      go_region
      go_wp2_with fail
      go_ret2
      exact ⟨rfl, (Below.refl _ _).drew⟩
end Go.Proofs.YtflpihedhccdfaaGreatDoor
