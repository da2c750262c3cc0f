/-
  Plain words: how many bytes two texts begin with that are the same; the edit between two texts. No program here.
-/
import Derived.Test.YtkfdjffoljkomaaDoorEdQ
set_option linter.unusedSimpArgs false
set_option linter.unusedVariables false
namespace Go.Proofs.YtkfdjffoljkomaaDoor
open Go.RowKit

/-- How many elements two lists begin with that are the same. -/
def lcp : List UInt8 → List UInt8 → Nat
  | a :: l, b :: m => if a = b then lcp l m + 1 else 0
  | _, _ => 0

theorem lcp_le (l m : List UInt8) : lcp l m ≤ l.length ∧ lcp l m ≤ m.length := by
  induction l generalizing m with
  | nil => simp [lcp]
  | cons a l ih =>
    cases m with
    | nil => simp [lcp]
    | cons b m =>
      have := ih m
      simp only [lcp]
      split <;> simp <;> omega

theorem lcp_comm (l m : List UInt8) : lcp l m = lcp m l := by
  induction l generalizing m with
  | nil => cases m <;> simp [lcp]
  | cons a l ih =>
    cases m with
    | nil => simp [lcp]
    | cons b m =>
      simp only [lcp, ih m]
      by_cases h : a = b
      · simp [h]
      · have h' : ¬ b = a := fun e => h e.symm
        simp [h, h']

theorem lcp_go {s t : List UInt8} {n : Nat} (h1 : n < s.length) (h2 : n < t.length) (he : s[n] = t[n]) (hn : n + lcp (s.drop n) (t.drop n) = lcp s t) : n + 1 + lcp (s.drop (n + 1)) (t.drop (n + 1)) = lcp s t := by
  rw [← hn, List.drop_eq_getElem_cons h1, List.drop_eq_getElem_cons h2]
  simp [lcp, he]
  omega
theorem lcp_stop {s t : List UInt8} {n : Nat} (h1 : n < s.length) (h2 : n < t.length) (he : s[n] ≠ t[n]) (hn : n + lcp (s.drop n) (t.drop n) = lcp s t) : n = lcp s t := by
  rw [← hn, List.drop_eq_getElem_cons h1, List.drop_eq_getElem_cons h2]
  simp [lcp, he]
theorem lcp_end {s t : List UInt8} {n : Nat} (h : s.length ≤ n ∨ t.length ≤ n) (hn : n + lcp (s.drop n) (t.drop n) = lcp s t) : n = lcp s t := by
  rw [← hn]
  rcases h with h | h
  · rw [List.drop_of_length_le h]; simp [lcp]
  · rw [List.drop_of_length_le h]; cases s.drop n <;> simp [lcp]

theorem lcp_same {s t : List UInt8} {n : Nat} (h : n ≤ lcp s t) : s.take n = t.take n := by
  induction n generalizing s t with
  | zero => simp
  | succ n ih =>
    match s, t, h with
    | [], t, h => simp [lcp] at h
    | a :: s, [], h => simp [lcp] at h
    | a :: s, b :: t, h =>
      simp only [lcp] at h
      split at h
      · rename_i e
        subst e
        simp only [List.take_succ_cons]
        rw [ih (s := s) (t := t) (by omega)]
      · omega

theorem lcp_differ {s t : List UInt8} (h1 : lcp s t < s.length) (h2 : lcp s t < t.length) : s[lcp s t] ≠ t[lcp s t] := by
  induction s generalizing t with
  | nil => simp at h1
  | cons a s ih =>
    cases t with
    | nil => simp at h2
    | cons b t =>
      by_cases e : a = b
      · subst e
        have e2 : lcp (a :: s) (a :: t) = lcp s t + 1 := by simp [lcp]
        simp only [e2] at h1 h2 ⊢
        simp only [List.getElem_cons_succ]
        exact ih (by simpa using h1) (by simpa using h2)
      · have e2 : lcp (a :: s) (b :: t) = 0 := by simp [lcp, e]
        simp only [e2, List.getElem_cons_zero]
        exact e

/-- The first bytes, the last bytes that are the same. -/
def front (s t : ByteArray) : Nat := lcp s.data.toList t.data.toList
def rear (s t : ByteArray) : Nat := lcp s.data.toList.reverse t.data.toList.reverse

theorem byte_get (s : ByteArray) (n : Nat) (h : n < s.size) : s.data.toList[n]'(by rw [bytes_len]; exact h) = s[n] := by
  simp [ByteArray.getElem_eq_getElem_data]

theorem front_go {s t : ByteArray} {n : Nat} (h1 : n < s.size) (h2 : n < t.size) (he : s[n].toNat = t[n].toNat) (hn : n + lcp (s.data.toList.drop n) (t.data.toList.drop n) = front s t) :
    n + 1 + lcp (s.data.toList.drop (n + 1)) (t.data.toList.drop (n + 1)) = front s t :=
  lcp_go (by rw [bytes_len]; exact h1) (by rw [bytes_len]; exact h2) (by rw [byte_get s n h1, byte_get t n h2]; exact UInt8.toNat_inj.1 he) hn
theorem front_stop {s t : ByteArray} {n : Nat} (h1 : n < s.size) (h2 : n < t.size) (he : s[n].toNat ≠ t[n].toNat) (hn : n + lcp (s.data.toList.drop n) (t.data.toList.drop n) = front s t) : n = front s t :=
  lcp_stop (by rw [bytes_len]; exact h1) (by rw [bytes_len]; exact h2) (by rw [byte_get s n h1, byte_get t n h2]; exact fun e => he (by rw [e])) hn
theorem front_end {s t : ByteArray} {n : Nat} (h : s.size ≤ n ∨ t.size ≤ n) (hn : n + lcp (s.data.toList.drop n) (t.data.toList.drop n) = front s t) : n = front s t :=
  lcp_end (by rw [bytes_len, bytes_len]; exact h) hn

theorem back_get (s : ByteArray) (n : Nat) (h : n < s.size) : s.data.toList.reverse[n]'(by rw [List.length_reverse, bytes_len]; exact h) = s[s.size - 1 - n]'(by omega) := by
  rw [List.getElem_reverse, ← byte_get s (s.size - 1 - n) (by omega)]
  rfl
theorem rear_go {s t : ByteArray} {n : Nat} (h1 : n < s.size) (h2 : n < t.size) (he : (s[s.size - 1 - n]'(by omega)).toNat = (t[t.size - 1 - n]'(by omega)).toNat) (hn : n + lcp (s.data.toList.reverse.drop n) (t.data.toList.reverse.drop n) = rear s t) :
    n + 1 + lcp (s.data.toList.reverse.drop (n + 1)) (t.data.toList.reverse.drop (n + 1)) = rear s t :=
  lcp_go (by rw [List.length_reverse, bytes_len]; exact h1) (by rw [List.length_reverse, bytes_len]; exact h2) (by rw [back_get s n h1, back_get t n h2]; exact UInt8.toNat_inj.1 he) hn
theorem rear_stop {s t : ByteArray} {n : Nat} (h1 : n < s.size) (h2 : n < t.size) (he : (s[s.size - 1 - n]'(by omega)).toNat ≠ (t[t.size - 1 - n]'(by omega)).toNat) (hn : n + lcp (s.data.toList.reverse.drop n) (t.data.toList.reverse.drop n) = rear s t) : n = rear s t :=
  lcp_stop (by rw [List.length_reverse, bytes_len]; exact h1) (by rw [List.length_reverse, bytes_len]; exact h2) (by rw [back_get s n h1, back_get t n h2]; exact fun e => he (by rw [e])) hn
theorem rear_end {s t : ByteArray} {n : Nat} (h : s.size ≤ n ∨ t.size ≤ n) (hn : n + lcp (s.data.toList.reverse.drop n) (t.data.toList.reverse.drop n) = rear s t) : n = rear s t :=
  lcp_end (by rw [List.length_reverse, bytes_len, List.length_reverse, bytes_len]; exact h) hn

theorem front_le (s t : ByteArray) : front s t ≤ s.size ∧ front s t ≤ t.size := by
  have := lcp_le s.data.toList t.data.toList
  rwa [bytes_len, bytes_len] at this
theorem rear_le (s t : ByteArray) : rear s t ≤ s.size ∧ rear s t ≤ t.size := by
  have := lcp_le s.data.toList.reverse t.data.toList.reverse
  rwa [List.length_reverse, bytes_len, List.length_reverse, bytes_len] at this

/-- The rest behind place a. -/
def rest (s : ByteArray) (a : Nat) : ByteArray := s.extract a s.size
def behind (s t : ByteArray) : Nat := rear (rest s (front s t)) (rest t (front s t))
/-- The edit between two texts that differ. -/
def edge (s t : ByteArray) : Ed := ⟨front s t, (s.size : Int) - behind s t - front s t, t.extract (front s t) (t.size - behind s t)⟩
def between (s t : ByteArray) : List Ed := if s = t then [] else [edge s t]

theorem rest_size (s : ByteArray) (a : Nat) : (rest s a).size = s.size - a := by simp [rest, ByteArray.size_extract]
theorem behind_le (s t : ByteArray) : behind s t ≤ s.size - front s t ∧ behind s t ≤ t.size - front s t := by
  have := rear_le (rest s (front s t)) (rest t (front s t))
  rwa [rest_size, rest_size] at this

end Go.Proofs.YtkfdjffoljkomaaDoor
