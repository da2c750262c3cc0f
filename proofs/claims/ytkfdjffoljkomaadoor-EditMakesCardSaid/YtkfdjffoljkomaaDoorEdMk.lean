/-
  The edits line by line are mild. Plain.
-/
import Derived.Test.YtkfdjffoljkomaaDoorEdX
import Derived.Test.YtkfdjffoljkomaaDoorEdLn
set_option linter.unusedSimpArgs false
set_option linter.unusedVariables false
namespace Go.Proofs.YtkfdjffoljkomaaDoor
open Go.RowKit

theorem right_mem {n : Int} : ∀ (L : List Ed) (e : Int), 0 ≤ e → right n e L = true → ∀ x ∈ L, 0 ≤ x.pos ∧ x.pos ≤ n ∧ 0 ≤ x.n ∧ x.n ≤ n
  | [], _, _, _, x, hx => by simp at hx
  | y :: L, e, he, h, x, hx => by
    rw [right_cons] at h
    obtain ⟨h1, h2, h3, h4, h5⟩ := h
    rcases List.mem_cons.1 hx with rfl | hx
    · exact ⟨by omega, h2, h3, by omega⟩
    · exact right_mem L _ (by omega) h5 x hx
theorem between_text {p q : ByteArray} {x : Ed} (h : x ∈ between p q) : x.s.size ≤ q.size := by
  unfold between at h
  split at h
  · simp at h
  · simp only [List.mem_singleton] at h
    subst h
    simp only [edge, ByteArray.size_extract]
    omega
theorem linesGo_text (M : Nat) : ∀ (ps qs : List ByteArray) (f : Nat), (∀ q ∈ qs, q.size ≤ M) → ∀ x ∈ linesGo ps qs f, x.s.size ≤ M
  | [], qs, f, _, x, hx => by rw [linesGo_none] at hx; simp at hx
  | p :: ps, [], f, _, x, hx => by simp [linesGo] at hx
  | p :: ps, q :: qs, f, h, x, hx => by
    rw [linesGo_cons, List.mem_append, List.mem_map] at hx
    rcases hx with ⟨y, hy, rfl⟩ | hx
    · have h1 := between_text hy
      have h2 := h q List.mem_cons_self
      show y.s.size ≤ M
      omega
    · exact linesGo_text M ps qs _ (fun z hz => h z (List.mem_cons_of_mem _ hz)) x hx
theorem lines_text (s t : ByteArray) : ∀ x ∈ linesOut s t, x.s.size ≤ t.size := by
  intro x hx
  unfold linesOut at hx
  split at hx
  · refine linesGo_text t.size _ _ 0 (fun q hq => ?_) x hx
    obtain ⟨k, hk, rfl⟩ := List.mem_iff_getElem.1 hq
    exact piece_small (List.getElem?_eq_getElem hk)
  · exact between_text hx
theorem mild_lines {s t : ByteArray} (hs : s.size ≤ 600) (ht : t.size ≤ 600) : mild (linesOut s t) := by
  have hR := (lines_make s t).2
  have hc := linesOut_len s t
  have hc2 := List.count_le_length (a := (10 : UInt8)) (l := s.data.toList)
  rw [bytes_len] at hc2
  refine ⟨by omega, fun k x hx => ?_⟩
  have hm := List.mem_of_getElem? hx
  obtain ⟨h1, h2, h3, h4⟩ := right_mem _ _ (Int.le_refl 0) hR x hm
  have h5 := lines_text s t x hm
  exact ⟨by omega, by omega, by omega, by omega, by omega⟩
theorem mild_between {s t : ByteArray} (hs : s.size ≤ 600) (ht : t.size ≤ 600) : mild (between s t) := by
  have hR := (between_makes s t).2
  have hc := between_le s t
  refine ⟨by omega, fun k x hx => ?_⟩
  have hm := List.mem_of_getElem? hx
  obtain ⟨h1, h2, h3, h4⟩ := right_mem _ _ (Int.le_refl 0) hR x hm
  have h5 := between_text hm
  exact ⟨by omega, by omega, by omega, by omega, by omega⟩
theorem count_step {s : ByteArray} {k : Nat} (h : k < s.size) : (s.data.toList.take (k + 1)).count 10 = (s.data.toList.take k).count 10 + if s[k] = 10 then 1 else 0 := by
  have hl : k < s.data.toList.length := by rw [bytes_len]; exact h
  rw [List.take_succ_eq_append_getElem hl, List.count_append]
  congr 1
  rw [byte_get s k h]
  by_cases e : s[k] = 10
  · simp [e]
  · simp [e]
end Go.Proofs.YtkfdjffoljkomaaDoor
