/-
  The line that the program finds is the document's, plainly.
-/
import Derived.Test.YtflpihedhccdfaaGreatDoorRxM
set_option linter.unusedSimpArgs false
set_option linter.unusedVariables false
namespace Go.Proofs.YtflpihedhccdfaaGreatDoor
open Go.RowKit

theorem find_from (p : Nat) (l : List Ln) : ∀ (m k : Nat), k + m = l.length → findL p k (findUp p l k).1 (findUp p l k).2 (stL (startL l k) (listsOf (textsOf (l.drop k)))) = findUp p l l.length
  | 0, k, h => by
    obtain rfl : k = l.length := by omega
    rw [List.drop_length]
    rfl
  | m + 1, k, h => by
    have hk : k < l.length := by omega
    have ih := find_from p l m (k + 1) (by omega)
    have hs := startL_succ (List.getElem?_eq_getElem hk)
    rw [List.drop_eq_getElem_cons hk]
    show findL p k _ _ (stL (startL l k) (l[k].text.data.toList :: listsOf (textsOf (l.drop (k + 1))))) = _
    have hb : l[k].text.data.toList.length = l[k].text.size := bytes_len _
    rw [stL, hb, Nat.add_assoc, ← hs, findL, ← ih]
    rw [findUp]
    split <;> rfl
theorem find_is {l : List Ln} {t : ByteArray} (p : Nat) (h : textsOf l = piecesB t) : findUp p l l.length = foundL t.data.toList p := by
  have e := find_from p l l.length 0 (by omega)
  rw [← e]
  unfold foundL
  rw [List.drop_zero, h, lists_pieces]
  rfl
end Go.Proofs.YtflpihedhccdfaaGreatDoor
