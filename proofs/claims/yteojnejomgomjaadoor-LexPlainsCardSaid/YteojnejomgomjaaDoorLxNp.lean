/-
  A number's token, plainly. No program here.
-/
import Derived.Lib.TrimByte
import Derived.Test.YteojnejomgomjaaDoorLxQ
set_option linter.unusedSimpArgs false
set_option linter.unusedVariables false
namespace Go.Proofs.YteojnejomgomjaaDoor
open Go.RowKit

theorem noughts_one (c : UInt8) : noughts [c] = [c] := by rw [noughts.eq_def]; split <;> simp_all
theorem noughts_48 (c : UInt8) (l : List UInt8) : noughts (48 :: c :: l) = noughts (c :: l) := by rw [noughts.eq_def]; rfl
theorem noughts_no {a : UInt8} (h : a ≠ 48) (l : List UInt8) : noughts (a :: l) = a :: l := by
  rw [noughts.eq_def]
  split
  · rename_i h2
    simp at h2
    exact absurd h2.1 h
  · rfl
theorem noughts_snoc : ∀ (l : List UInt8) (c : UInt8), noughts (l ++ [c]) = l.dropWhile (· == 48) ++ [c]
  | [], c => noughts_one c
  | a :: l, c => by
    by_cases h : a = 48
    · subst h
      have ih := noughts_snoc l c
      have e : (48 :: l).dropWhile (· == (48 : UInt8)) = l.dropWhile (· == 48) := by rw [List.dropWhile_cons]; simp
      rw [e, ← ih]
      cases l with
      | nil => exact noughts_48 c []
      | cons b r => exact noughts_48 b (r ++ [c])
    · have e : (a :: l).dropWhile (· == (48 : UInt8)) = a :: l := by rw [List.dropWhile_cons]; simp [h]
      rw [e]
      exact noughts_no h (l ++ [c])
theorem num_text {s : ByteArray} {m n : Nat} (h : m + n + 1 ≤ s.size) :
    (⟨(Lib.trimLeftB (s.extract m (m + n)).data.toList 48).toArray⟩ : ByteArray) ++ s.extract (m + n) (m + n + 1) = ⟨(noughts (s.extract m (m + n + 1)).data.toList).toArray⟩ := by
  refine bytes_eq ?_
  have hl : m + n < s.data.toList.length := by rw [bytes_len]; omega
  rw [bytes_app, bytes_ext, bytes_ext, bytes_ext]
  have e1 : (s.data.toList.drop (m + n)).take (m + n + 1 - (m + n)) = [s.data.toList[m + n]] := by
    rw [show m + n + 1 - (m + n) = 1 by omega, List.drop_eq_getElem_cons hl]
    rfl
  have e2 : (s.data.toList.drop m).take (m + n + 1 - m) = (s.data.toList.drop m).take n ++ [s.data.toList[m + n]] := by
    rw [show m + n + 1 - m = n + 1 by omega, List.take_succ_eq_append_getElem (by rw [List.length_drop]; omega)]
    simp
  rw [e1, e2, noughts_snoc, show m + n - m = n by omega]
  unfold Lib.trimLeftB
  simp
def numMinus (s : ByteArray) : Nat := if gClass (gFirst s).1 = 5 then (gFirst s).2 else 0
def tNumber (s : ByteArray) : Tok := if numMinus s = 0 ∧ dDigits (s.extract (numMinus s) s.size) = 0 then ⟨0, noText, noText⟩ else dNumber s (numMinus s)
theorem numMinus_le (s : ByteArray) : numMinus s ≤ s.size := by
  unfold numMinus
  split
  · exact gFirst_size s
  · exact Nat.zero_le _
end Go.Proofs.YteojnejomgomjaaDoor
