/-
  A splice, whatever it is: by the program.
-/
import Derived.Test.YtflpihedhccdfaaGreatDoorProg
import Derived.Test.YtflpihedhccdfaaGreatDoorReg
import Derived.WalkKit
import Derived.WalkSpells
import Derived.WalkLawsBesides
import Derived.Lib.Hide
import Derived.Lib.MinMax
import Derived.Deep.QuietTactic
import Derived.BigQuiet
import Derived.OwnWalk
import Derived.Deep.AppendLies
import Derived.KernelRfl
import Derived.Test.YtflpihedhccdfaaGreatDoorRxY
set_option linter.unusedSimpArgs false
set_option linter.unusedVariables false
namespace Go.Proofs.YtflpihedhccdfaaGreatDoor
open Go Go.RowKit

def Chg.val (c : Chg) : Value := .agg #[.int .i64 (c.fro : Int), .int .i64 (c.old : Int), .int .i64 (c.new : Int)]
theorem noChg_val : noChg.val = .agg #[.int .i64 0, .int .i64 0, .int .i64 0] := rfl

theorem Splice_any (base X : Nat) (v : Value) (ls : List Ln) (t : ByteArray) (q p n : Int) (s : ByteArray) (a d : Addr) (w : World)
    (h : LexV w base X v ls t q) (ht : t.size ≤ 4000) (hq : 0 ≤ q ∧ q ≤ 900000000) (hs : s.size ≤ 1000000)
    (hn : -9223372036854775808 ≤ n ∧ n ≤ 9223372036854775807) (hT : Tabs w) (hL : Laid5 a d w) :
    Calls Tryz.prog 12 #[.pointer (some ⟨X, 0, none⟩), .int .i64 p, .int .i64 n, .string s] w fun e w' =>
      e = .returned (.tuple #[(doneS t p n s).val, .int .i64 (errS t p n s)]) ∧ (∃ v' ls', LexV w' base X v' ls' (textS t p n s) (q + (doneS t p n s).new)) ∧ ButLex w w' X v := by
  by_cases hr : p < 0 ∨ p > t.size ∨ n < 0 ∨ n > t.size - p
  · have he : errS t p n s = 10 := by unfold errS; rw [if_pos hr]
    have hd : doneS t p n s = noChg := by unfold doneS; rw [he]; rfl
    have hx : textS t p n s = t := by unfold textS; rw [he]; rfl
    rw [he, hd, hx]
    refine (Splice_range X t q p n s a d w h.is ht hL hn hr).mono fun e w' ⟨h1, h2⟩ => ⟨h1, ⟨v, ls, ?_⟩, ButLex.of_below h2⟩
    have := h.below h2
    simpa [noChg] using this
  · by_cases hf : (t.size : Int) - n + s.size > 4000
    · have he : errS t p n s = 11 := by unfold errS; rw [if_neg hr, if_pos hf]
      have hd : doneS t p n s = noChg := by unfold doneS; rw [he]; rfl
      have hx : textS t p n s = t := by unfold textS; rw [he]; rfl
      rw [he, hd, hx]
      refine (Splice_full X t q p n s a d w h.is ht hL (by omega) (by omega) (by omega) hs hf).mono fun e w' ⟨h1, h2⟩ => ⟨h1, ⟨v, ls, ?_⟩, ButLex.of_below h2⟩
      have := h.below h2
      simpa [noChg] using this
    · have he : errS t p n s = 0 := by unfold errS; rw [if_neg hr, if_neg hf]
      have hd : doneS t p n s = chgS t p.toNat n.toNat s := by unfold doneS; rw [if_pos he]
      have hx : textS t p n s = putS t p.toNat n.toNat s := by unfold textS; rw [if_pos he]
      rw [he, hd, hx]
      obtain ⟨P, rfl⟩ : ∃ P : Nat, p = (P : Int) := ⟨p.toNat, by omega⟩
      obtain ⟨M, rfl⟩ : ∃ M : Nat, n = (M : Int) := ⟨n.toNat, by omega⟩
      simp only [Int.toNat_natCast]
      exact Splice_right base X v ls t q P M s w h ht hq (by omega) hs (by omega) hT

theorem new_le (t : ByteArray) (p n : Int) (s : ByteArray) : (doneS t p n s).new ≤ s.size + 1 := by
  unfold doneS
  split
  · exact pieces_le s
  · exact Nat.zero_le _

/-- A splice of a lexer that lies above K: what is below K stays. -/
theorem Splice_low (K base X : Nat) (t : ByteArray) (q p n : Int) (s : ByteArray) (a d : Addr) (w0 w : World)
    (h : IsLexB w base X t q) (ht : t.size ≤ 4000) (hq : 0 ≤ q ∧ q ≤ 900000000) (hs : s.size ≤ 1000000)
    (hn : -9223372036854775808 ≤ n ∧ n ≤ 9223372036854775807) (hT : Tabs w) (hL : Laid5 a d w) (hB : Below K w0 w) (hK : K ≤ base) (hX : K ≤ X) (hw : K ≤ w.heap.size) :
    Calls Tryz.prog 12 #[.pointer (some ⟨X, 0, none⟩), .int .i64 p, .int .i64 n, .string s] w fun e w' =>
      e = .returned (.tuple #[(doneS t p n s).val, .int .i64 (errS t p n s)]) ∧ IsLexB w' base X (textS t p n s) (q + (doneS t p n s).new) ∧ Below K w0 w' ∧ w.heap.size ≤ w'.heap.size ∧ OthersL w w' := by
  obtain ⟨v, ls, h⟩ := h
  exact (Splice_any base X v ls t q p n s a d w h ht hq hs hn hT hL).mono fun e w' ⟨h1, h2, h3⟩ => ⟨h1, h2, h3.below hB hw hX (fun k hk => Nat.le_trans hK (h.own.lt k hk).1), h3.size, h.others h3⟩
end Go.Proofs.YtflpihedhccdfaaGreatDoor
