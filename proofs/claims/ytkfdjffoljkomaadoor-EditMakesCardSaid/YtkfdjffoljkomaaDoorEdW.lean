/-
  The plain law of EditLeast: an edit between two texts is least.
-/
import Derived.Test.YtkfdjffoljkomaaDoorEdR
import Derived.Test.YtkfdjffoljkomaaDoorEdU
import Derived.Test.YtkfdjffoljkomaaDoorReg
set_option linter.unusedSimpArgs false
set_option linter.unusedVariables false
namespace Go.Proofs.YtkfdjffoljkomaaDoor
open Go.RowKit

/-- What is taken out, what is put in. -/
def outOf (s t : ByteArray) : ByteArray := s.extract (front s t) (s.size - behind s t)
def inOf (s t : ByteArray) : ByteArray := t.extract (front s t) (t.size - behind s t)

theorem out_size (s t : ByteArray) : (outOf s t).size = s.size - behind s t - front s t := by
  have := behind_le s t
  rw [outOf, ByteArray.size_extract]
  omega
theorem in_size (s t : ByteArray) : (inOf s t).size = t.size - behind s t - front s t := by
  have := behind_le s t
  rw [inOf, ByteArray.size_extract]
  omega

theorem rest_list (s : ByteArray) (a : Nat) : (rest s a).data.toList = s.data.toList.drop a := by
  have : s.data.toList.length = s.size := bytes_len s
  simp [rest, List.take_of_length_le, this]

theorem edge_not_both (s t : ByteArray) (h1 : s.size - behind s t - front s t = 0) (h2 : t.size - behind s t - front s t = 0) : s = t := by
  have hf := front_le s t
  have hb := behind_le s t
  have hf' : s.data.toList.take (front s t) = t.data.toList.take (front s t) := lcp_same (Nat.le_refl _)
  have hr : (rest s (front s t)).data.toList.reverse.take (behind s t) = (rest t (front s t)).data.toList.reverse.take (behind s t) := lcp_same (Nat.le_refl _)
  have ls : s.data.toList.length = s.size := bytes_len s
  have lt : t.data.toList.length = t.size := bytes_len t
  rw [rest_list, rest_list, List.take_of_length_le (by simp; omega), List.take_of_length_le (by simp; omega), List.reverse_inj] at hr
  apply ByteArray.ext
  apply Array.ext'
  rw [← List.take_append_drop (front s t) s.data.toList, ← List.take_append_drop (front s t) t.data.toList, hf', hr]

theorem byte_ne {a b : UInt8} (h : a ≠ b) : a.toNat ≠ b.toNat := fun e => h (UInt8.toNat_inj.1 e)

theorem front_differ (s t : ByteArray) (h1 : front s t < s.size) (h2 : front s t < t.size) : s[front s t].toNat ≠ t[front s t].toNat := by
  refine byte_ne ?_
  rw [← byte_get, ← byte_get]
  exact lcp_differ (by rw [bytes_len]; exact h1) (by rw [bytes_len]; exact h2)

theorem rear_differ (s t : ByteArray) (h1 : rear s t < s.size) (h2 : rear s t < t.size) : (s[s.size - 1 - rear s t]'(by omega)).toNat ≠ (t[t.size - 1 - rear s t]'(by omega)).toNat := by
  refine byte_ne ?_
  rw [← back_get s _ h1, ← back_get t _ h2]
  exact lcp_differ (by rw [List.length_reverse, bytes_len]; exact h1) (by rw [List.length_reverse, bytes_len]; exact h2)

theorem empty_is {u : ByteArray} (h : u.size = 0) : u.toList.isEmpty = true := by
  rw [ByteArray.toList_eq]
  have : u.data.toList.length = 0 := by rw [bytes_len]; exact h
  rw [List.length_eq_zero_iff.1 this]
  rfl
theorem empty_not {u : ByteArray} (h : 0 < u.size) : u.toList.isEmpty = false := by
  rw [ByteArray.toList_eq]
  have : u.data.toList.length = u.size := bytes_len u
  cases hl : u.data.toList with
  | nil => rw [hl] at this; simp at this; omega
  | cons a l => rfl

/-- Neither begins or ends as the other one; where one is empty they differ. -/
def Least (u v : ByteArray) : Prop := (u.size = 0 ∨ v.size = 0 → u ≠ v) ∧
  ∀ (h1 : 0 < u.size) (h2 : 0 < v.size), u[0].toNat ≠ v[0].toNat ∧ (u[u.size - 1]'(by omega)).toNat ≠ (v[v.size - 1]'(by omega)).toNat

theorem least_is (s t : ByteArray) (hne : s ≠ t) : Least (outOf s t) (inOf s t) := by
  show ((outOf s t).size = 0 ∨ (inOf s t).size = 0 → outOf s t ≠ inOf s t) ∧
    ∀ (h1 : 0 < (outOf s t).size) (h2 : 0 < (inOf s t).size), (outOf s t)[0].toNat ≠ (inOf s t)[0].toNat ∧
      ((outOf s t)[(outOf s t).size - 1]'(by omega)).toNat ≠ ((inOf s t)[(inOf s t).size - 1]'(by omega)).toNat
  have hf := front_le s t
  have hb := behind_le s t
  have ho := out_size s t
  have hi := in_size s t
  refine ⟨fun h e => ?_, fun h1 h2 => ⟨?_, ?_⟩⟩
  · have : (outOf s t).size = (inOf s t).size := by rw [e]
    exact hne (edge_not_both s t (by omega) (by omega))
  · have := front_differ s t (by omega) (by omega)
    have e1 : (outOf s t)[0] = s[front s t]'(by omega) := by simp [outOf, ByteArray.getElem_extract]
    have e2 : (inOf s t)[0] = t[front s t]'(by omega) := by simp [inOf, ByteArray.getElem_extract]
    rw [e1, e2]
    exact this
  · have hr := rear_differ (rest s (front s t)) (rest t (front s t)) (by rw [rest_size]; show behind s t < _; omega) (by rw [rest_size]; show behind s t < _; omega)
    have e1 : ((outOf s t)[(outOf s t).size - 1]'(by omega)) = ((rest s (front s t))[(rest s (front s t)).size - 1 - rear (rest s (front s t)) (rest t (front s t))]'(by have := rest_size s (front s t); omega)) := by
      unfold outOf rest
      rw [ByteArray.getElem_extract, ByteArray.getElem_extract]
      have : front s t + ((s.extract (front s t) (s.size - behind s t)).size - 1) = front s t + ((s.extract (front s t) s.size).size - 1 - rear (s.extract (front s t) s.size) (t.extract (front s t) t.size)) := by
        show front s t + ((outOf s t).size - 1) = front s t + ((rest s (front s t)).size - 1 - behind s t)
        rw [out_size, rest_size]
        omega
      simp only [this]
    have e2 : ((inOf s t)[(inOf s t).size - 1]'(by omega)) = ((rest t (front s t))[(rest t (front s t)).size - 1 - rear (rest s (front s t)) (rest t (front s t))]'(by have := rest_size t (front s t); omega)) := by
      unfold inOf rest
      rw [ByteArray.getElem_extract, ByteArray.getElem_extract]
      have : front s t + ((t.extract (front s t) (t.size - behind s t)).size - 1) = front s t + ((t.extract (front s t) t.size).size - 1 - rear (s.extract (front s t) s.size) (t.extract (front s t) t.size)) := by
        show front s t + ((inOf s t).size - 1) = front s t + ((rest t (front s t)).size - 1 - behind s t)
        rw [in_size, rest_size]
        omega
      simp only [this]
    rw [e1, e2]
    exact hr

theorem edge_right (s t : ByteArray) : right s.size 0 [edge s t] = true := by
  have hf := front_le s t
  have hb := behind_le s t
  simp only [right, edge, Bool.and_true, Bool.and_eq_true, Bool.not_eq_true']
  exact ⟨⟨⟨decide_eq_false (by omega), decide_eq_false (by omega)⟩, decide_eq_false (by omega)⟩, decide_eq_false (by omega)⟩
end Go.Proofs.YtkfdjffoljkomaaDoor
