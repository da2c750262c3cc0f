/-
  The calls of the laws of layer 5, opened; a list of splices done, plainly.
-/
import Derived.Test.YtflpihedhccdfaaGreatDoorProg
import Derived.Test.YtflpihedhccdfaaGreatDoorReg
import Derived.WalkKit
import Derived.WalkSpells
import Derived.WalkLawsBesides
import Derived.Lib.Hide
import Derived.Lib.MinMax
import Derived.Deep.QuietTactic
import Derived.BigQuiet
import Derived.OwnWalk
import Derived.Deep.AppendLies
import Derived.KernelRfl
import Derived.Test.YtflpihedhccdfaaGreatDoorRxSh
import Derived.Test.YtflpihedhccdfaaGreatDoorRxG
import Derived.Test.YtflpihedhccdfaaGreatDoorRxO
import Derived.Test.YtflpihedhccdfaaGreatDoorLxM11
import Derived.Test.YtflpihedhccdfaaGreatDoorLxM12
set_option linter.unusedSimpArgs false
set_option linter.unusedVariables false
namespace Go.Proofs.YtflpihedhccdfaaGreatDoor
open Go Go.RowKit

/-- A slice that holds these tokens. -/
def GivesT (l : List Tok) (e : Ending) (w w' : World) : Prop := ∃ A c, e = .returned (.slice A l.length c) ∧ HoldsT w' A l ∧ l.length ≤ c ∧ Below w.heap.size w w'
theorem gives_of {l : List Tok} {base : Nat} {w w' : World} {v : Value} (h : w'.ownsRow base 55 3 v l.length (tokCells l)) (hb : Below w.heap.size w w') : GivesT l (.returned v) w w' := by
  obtain ⟨A, c, rfl, _, h1, h2⟩ := holdsT_of_own h
  exact ⟨A, c, rfl, h1, h2, hb⟩
theorem TokensC (X : Nat) (t : ByteArray) (q : Int) (w : World) (h : IsLex w X t q) (ht : t.size ≤ 4000) : Calls Tryz.prog 23 #[.pointer (some ⟨X, 0, none⟩)] w fun e w' => GivesT (tokensS t) e w w' :=
  (Tokens_lex X t q w h ht).mono fun e w' ⟨v, he, ho, hb⟩ => by subst he; exact gives_of ho hb
theorem LineC (X : Nat) (t p : ByteArray) (q : Int) (k : Nat) (w : World) (h : IsLex w X t q) (ht : t.size ≤ 4000) (hp : (piecesB t)[k]? = some p) : Calls Tryz.prog 17 #[.pointer (some ⟨X, 0, none⟩), .int .i64 k] w fun e w' => GivesT (dLine p) e w w' :=
  (Line_in X t p q k w h ht hp).mono fun e w' ⟨v, he, ho, hb⟩ => by subst he; exact gives_of ho hb
theorem tokensS_len (t : ByteArray) : (tokensS t).length ≤ t.size + 1 := by
  have h := toksOf_len (piecesB t)
  rw [sum_join _ (pieces_ne t), join_pieces, bytes_len] at h
  exact h
/-- What a lexer is behind splices: the text is no longer than allowed, the number is small. -/
structure StateL (w : World) (K base X : Nat) (k : Nat) (t : ByteArray) (q : Int) : Prop where
  lex : IsLexB w base X t q
  size : t.size ≤ 4000
  num : 0 ≤ q ∧ q ≤ 5000 + 5000 * k
theorem StateL.below {w w' : World} {K base X k : Nat} {t : ByteArray} {q : Int} (h : StateL w K base X k t q) (hb : Below w.heap.size w w') : StateL w' K base X k t q := ⟨h.lex.below hb, h.size, h.num⟩
/-- One splice more. -/
theorem Splice_state (K base X k : Nat) (t : ByteArray) (q p n : Int) (s : ByteArray) (a d : Addr) (w0 w : World) (h : StateL w K base X k t q) (hk : k ≤ 100) (hs : s.size ≤ 4010)
    (hn : -9223372036854775808 ≤ n ∧ n ≤ 9223372036854775807) (hT : Tabs w) (hL : Laid5 a d w) (hB : Below K w0 w) (hK : K ≤ base) (hX : K ≤ X) (hw : K ≤ w.heap.size) :
    Calls Tryz.prog 12 #[.pointer (some ⟨X, 0, none⟩), .int .i64 p, .int .i64 n, .string s] w fun e w' =>
      e = .returned (.tuple #[.agg #[.int .i64 ((doneS t p n s).fro : Int), .int .i64 ((doneS t p n s).old : Int), .int .i64 ((doneS t p n s).new : Int)], .int .i64 (errS t p n s)]) ∧
      StateL w' K base X (k + 1) (textS t p n s) (q + (doneS t p n s).new) ∧ Below K w0 w' ∧ w.heap.size ≤ w'.heap.size ∧ OthersL w w' :=
  (Splice_low K base X t q p n s a d w0 w h.lex h.size (by have := h.num; omega) (by omega) hn hT hL hB hK hX hw).mono fun e w' ⟨h1, h2, h3, h4⟩ =>
    ⟨h1, ⟨h2, textS_size h.size, by have h5 := new_le t p n s; have h6 := h.num; omega⟩, h3, h4⟩
/-- A new lexer. -/
theorem New_state (s : ByteArray) (w : World) (hs : s.size ≤ 4000) (hT : Tabs w) (K : Nat) (hK : K ≤ w.heap.size) :
    Calls Tryz.prog 11 #[.string s] w fun e w' => e = .returned (.tuple #[.pointer (some ⟨w.heap.size, 0, none⟩), .int .i64 0]) ∧ StateL w' K w.heap.size w.heap.size 0 s (piecesB s).length ∧ Below w.heap.size w w' :=
  (New_any s w hs hT).mono fun e w' ⟨h1, h2, h3⟩ => ⟨h1, ⟨h2.lex, hs, by have := pieces_le s; omega⟩, h3⟩
/-- The splices that are looked at. -/
theorem few_good {l : List Act5} (h : ∀ (k : Nat) (x : Act5), l[k]? = some x → x.s.size ≤ maxLen ∧ (-9223372036854775808 ≤ x.n ∧ x.n ≤ 9223372036854775807)) (m : Nat) :
    (fewTo5 l m).length ≤ m ∧ ∀ (k : Nat) (x : Act5), (fewTo5 l m)[k]? = some x → x.s.size ≤ 4010 ∧ (-9223372036854775808 ≤ x.n ∧ x.n ≤ 9223372036854775807) := by
  constructor
  · unfold fewTo5
    rw [List.length_map, List.length_take]
    omega
  · intro k x hx
    unfold fewTo5 at hx
    rw [List.getElem?_map] at hx
    cases hl : (l.take m)[k]? with
    | none => rw [hl] at hx; cases hx
    | some y =>
      rw [hl] at hx
      cases hx
      have hy : l[k]? = some y := by
        rw [List.getElem?_take] at hl
        split at hl
        · exact hl
        · cases hl
      exact ⟨cut4010_size y.s, (h k y hy).2⟩
theorem done_facts (t : ByteArray) (p n : Int) (s : ByteArray) : ((doneS t p n s).fro + (doneS t p n s).old ≤ (piecesB t).length) ∧ (errS t p n s = 0 → (doneS t p n s).new = (piecesB s).length) ∧ (errS t p n s ≠ 0 → doneS t p n s = noChg) := by
  unfold doneS
  by_cases h : errS t p n s = 0
  · rw [if_pos h]
    obtain ⟨h1, h2, h3, _⟩ := err_right h
    obtain ⟨_, _, _, h4, _, _⟩ := chg_lines (t := t) (s := s) (p := p.toNat) (n := n.toNat) (by omega)
    exact ⟨h4, fun _ => rfl, fun h' => absurd h h'⟩
  · rw [if_neg h]
    exact ⟨Nat.zero_le _, fun h' => absurd h' h, fun _ => rfl⟩
theorem StateL.set3 {w : World} {K base X k : Nat} {t : ByteArray} {q : Int} (h : StateL w K base X k t q) {r : Nat} {cs : Array Value} (hr : w.heap[r]? = some (.cells cs 29 (0, 0))) (b1 b2 b3 : Value) :
    StateL (((w.setCell ⟨r, 0, none⟩ b1).setCell ⟨r, 1, none⟩ b2).setCell ⟨r, 2, none⟩ b3) K base X k t q := by
  obtain ⟨v, ls, hv⟩ := h.lex
  exact ⟨⟨v, ls, hv.set3 hr (by decide) (by decide) (by decide) b1 b2 b3⟩, h.size, h.num⟩
theorem own_set3 {w : World} {base size n : Nat} {T T2 : TypeId} {z : Value} {xs : List Value} (h : w.ownsRow base T size z n xs) {r : Nat} {cs : Array Value} {fr : Nat × Nat} (hr : w.heap[r]? = some (.cells cs T2 fr)) (hne : T2 ≠ T) (b1 b2 b3 : Value) :
    (((w.setCell ⟨r, 0, none⟩ b1).setCell ⟨r, 1, none⟩ b2).setCell ⟨r, 2, none⟩ b3).ownsRow base T size z n xs :=
  h.kept (row := some r) ⟨rfl, rfl, rfl, by simp, fun k hk hn => by
    have e : k ≠ r := fun e => hn (by rw [e])
    rw [heap_setCell_other _ _ _ _ e, heap_setCell_other _ _ _ _ e, heap_setCell_other _ _ _ _ e]⟩ (Or.inr (own_apart_cells h hr hne))
theorem below_set3 {K : Nat} {w0 w : World} (h : Below K w0 w) {r : Nat} (hr : K ≤ r) (b1 b2 b3 : Value) : Below K w0 (((w.setCell ⟨r, 0, none⟩ b1).setCell ⟨r, 1, none⟩ b2).setCell ⟨r, 2, none⟩ b3) :=
  ((h.setCell (p := ⟨r, 0, none⟩) hr b1).setCell (p := ⟨r, 1, none⟩) hr b2).setCell (p := ⟨r, 2, none⟩) hr b3
end Go.Proofs.YtflpihedhccdfaaGreatDoor
