/-
  The plain law of layer 16: what is applied and taken back is the text. No program here.
-/
import Derived.Test.YtkfdjffoljkomaaDoorEdR
set_option linter.unusedSimpArgs false
set_option linter.unusedVariables false
namespace Go.Proofs.YtkfdjffoljkomaaDoor
open Go.RowKit

/-- How much longer edits make a text. -/
def total : List Ed → Int
  | [] => 0
  | x :: l => (x.s.size : Int) - x.n + total l

theorem nat_of {x : Int} (h : 0 ≤ x) : ∃ n : Nat, x = n := Int.eq_ofNat_of_zero_le h

/-- The parts of 'right', as natural numbers. -/
theorem right_parts {n e : Nat} {x : Ed} {l : List Ed} (h : right n e (x :: l) = true) :
    ∃ p m : Nat, x.pos = p ∧ x.n = m ∧ e ≤ p ∧ p + m ≤ n ∧ right n ((p + m : Nat) : Int) l = true := by
  rw [right_cons] at h
  obtain ⟨h1, h2, h3, h4, h5⟩ := h
  obtain ⟨p, hp⟩ := nat_of (show 0 ≤ x.pos by omega)
  obtain ⟨m, hm⟩ := nat_of h3
  refine ⟨p, m, hp, hm, by omega, by omega, ?_⟩
  rw [hp, hm] at h5
  rwa [Int.natCast_add]

theorem applyL_cons {S : List UInt8} {e p m : Nat} {x : Ed} {l : List Ed} (hp : x.pos = p) (hm : x.n = m) :
    applyL S e (x :: l) = (S.drop e).take (p - e) ++ (x.s.data.toList ++ applyL S (p + m) l) := by
  simp only [applyL, hp, hm]
  congr

theorem apply_len (S : List UInt8) (l : List Ed) : ∀ e : Nat, right S.length e l = true → e ≤ S.length → ((applyL S e l).length : Int) = S.length - e + total l := by
  induction l with
  | nil => intro e _ he; simp [applyL, total]; omega
  | cons x l ih =>
    intro e h he
    obtain ⟨p, m, hp, hm, h1, h2, h3⟩ := right_parts h
    have h4 := ih (p + m) h3 (by omega)
    have h5 : ((S.drop e).take (p - e)).length = p - e := by simp; omega
    rw [applyL_cons hp hm, List.length_append, List.length_append, h5, bytes_len, total, hm]
    omega

theorem back_right (s : ByteArray) (l : List Ed) : ∀ (e : Nat) (d : Int) (E T : Nat), right s.size e l = true → e ≤ s.size → (E : Int) = e + d → T = E + (applyL s.data.toList e l).length → right T E (backL s d l) = true := by
  induction l with
  | nil => intro e d E T _ _ _ _; simp [backL, right]
  | cons x l ih =>
    intro e d E T h he hE hT
    obtain ⟨p, m, hp, hm, h1, h2, h3⟩ := right_parts h
    have h5 : ((s.data.toList.drop e).take (p - e)).length = p - e := by simp; omega
    rw [applyL_cons hp hm, List.length_append, List.length_append, h5, bytes_len] at hT
    have h6 := ih (p + m) (d + x.s.size - x.n) (E + (p - e) + x.s.size) T h3 (by omega) (by omega) (by omega)
    simp only [backL, back1, right_cons]
    refine ⟨by omega, by omega, by omega, by omega, ?_⟩
    have e2 : x.pos + d + (x.s.size : Int) = ((E + (p - e) + x.s.size : Nat) : Int) := by omega
    rw [e2]
    exact h6

theorem back_apply (s : ByteArray) (l : List Ed) : ∀ (e : Nat) (d : Int) (P : List UInt8), right s.size e l = true → e ≤ s.size → (P.length : Int) = e + d →
    applyL (P ++ applyL s.data.toList e l) P.length (backL s d l) = s.data.toList.drop e := by
  induction l with
  | nil => intro e d P _ _ _; simp [backL, applyL]
  | cons x l ih =>
    intro e d P h he hP
    obtain ⟨p, m, hp, hm, h1, h2, h3⟩ := right_parts h
    have h5 : ((s.data.toList.drop e).take (p - e)).length = p - e := by simp; omega
    have h6 := ih (p + m) (d + x.s.size - x.n) (P ++ ((s.data.toList.drop e).take (p - e) ++ x.s.data.toList)) h3 (by omega) (by
      rw [List.length_append, List.length_append, h5, bytes_len]; omega)
    have hpd : x.pos + d = ((P.length + (p - e) : Nat) : Int) := by omega
    simp only [backL]
    have eb : (back1 s d x).pos = ((P.length + (p - e) : Nat) : Int) := hpd
    have en : (back1 s d x).n = ((x.s.size : Nat) : Int) := rfl
    rw [applyL_cons eb en, applyL_cons hp hm]
    have t1 : (List.drop P.length (P ++ ((s.data.toList.drop e).take (p - e) ++ (x.s.data.toList ++ applyL s.data.toList (p + m) l)))).take (P.length + (p - e) - P.length) = (s.data.toList.drop e).take (p - e) := by
      rw [List.drop_left]
      rw [show P.length + (p - e) - P.length = ((s.data.toList.drop e).take (p - e)).length by omega, List.take_left]
    have t2 : P.length + (p - e) + x.s.size = (P ++ ((s.data.toList.drop e).take (p - e) ++ x.s.data.toList)).length := by
      rw [List.length_append, List.length_append, h5, bytes_len]; omega
    rw [t1, t2]
    have t3 : P ++ ((s.data.toList.drop e).take (p - e) ++ (x.s.data.toList ++ applyL s.data.toList (p + m) l)) = (P ++ ((s.data.toList.drop e).take (p - e) ++ x.s.data.toList)) ++ applyL s.data.toList (p + m) l := by simp
    rw [t3, h6]
    have t4 : (back1 s d x).s.data.toList = (s.data.toList.drop p).take m := by
      simp only [back1, bytes_ext, hp, hm]
      congr 1
      omega
    rw [t4]
    have t5 : s.data.toList.drop e = (s.data.toList.drop e).take (p - e) ++ s.data.toList.drop p := by
      conv => lhs; rw [← List.take_append_drop (p - e) (s.data.toList.drop e)]
      rw [List.drop_drop, show e + (p - e) = p by omega]
    have t6 : s.data.toList.drop p = (s.data.toList.drop p).take m ++ s.data.toList.drop (p + m) := by
      conv => lhs; rw [← List.take_append_drop m (s.data.toList.drop p)]
      rw [List.drop_drop]
    rw [← t6, ← t5]

theorem back_back (s : ByteArray) (l : List Ed) : ∀ (e : Nat) (d : Int) (P : List UInt8) (t : ByteArray), right s.size e l = true → e ≤ s.size → (P.length : Int) = e + d → t.data.toList = P ++ applyL s.data.toList e l →
    backL t (-d) (backL s d l) = l := by
  induction l with
  | nil => intro e d P t _ _ _ _; simp [backL]
  | cons x l ih =>
    intro e d P t h he hP ht
    obtain ⟨p, m, hp, hm, h1, h2, h3⟩ := right_parts h
    have h5 : ((s.data.toList.drop e).take (p - e)).length = p - e := by simp; omega
    have t3 : P ++ ((s.data.toList.drop e).take (p - e) ++ (x.s.data.toList ++ applyL s.data.toList (p + m) l)) = (P ++ ((s.data.toList.drop e).take (p - e) ++ x.s.data.toList)) ++ applyL s.data.toList (p + m) l := by simp
    rw [applyL_cons hp hm] at ht
    have h6 := ih (p + m) (d + x.s.size - x.n) (P ++ ((s.data.toList.drop e).take (p - e) ++ x.s.data.toList)) t h3 (by omega) (by
      rw [List.length_append, List.length_append, h5, bytes_len]; omega) (by rw [ht, t3])
    have hz : (back1 s d x).s.size = m := by
      simp only [back1, ByteArray.size_extract, hp, hm]
      omega
    simp only [backL]
    have e1 : back1 t (-d) (back1 s d x) = x := by
      have ep : (back1 s d x).pos + -d = x.pos := by simp only [back1]; omega
      have es : t.extract (back1 s d x).pos.toNat ((back1 s d x).pos + (back1 s d x).n).toNat = x.s := by
        refine bytes_eq ?_
        have a1 : (back1 s d x).pos.toNat = (P ++ (s.data.toList.drop e).take (p - e)).length := by
          rw [List.length_append, h5]; simp only [back1]; omega
        have a2 : ((back1 s d x).pos + (back1 s d x).n).toNat - (back1 s d x).pos.toNat = x.s.data.toList.length := by
          rw [bytes_len]; simp only [back1]; omega
        rw [bytes_ext, a2, a1, ht, ← List.append_assoc, List.drop_left, List.take_left]
      obtain ⟨a, b, c⟩ := x
      simp only [back1] at ep es hz ⊢
      rw [Ed.mk.injEq]
      refine ⟨ep, ?_, es⟩
      simp only at hm
      rw [hz, hm]
    rw [e1]
    congr 1
    have e2 : -d + ((back1 s d x).s.size : Int) - (back1 s d x).n = -(d + x.s.size - x.n) := by
      rw [hz]; simp only [back1]; omega
    rw [e2]
    exact h6

theorem moved_total (n : Nat) (l : List Ed) : ∀ e : Nat, right n e l = true → moved n l = total l := by
  induction l with
  | nil => intro e _; rfl
  | cons x l ih =>
    intro e h
    obtain ⟨p, m, hp, hm, h1, h2, h3⟩ := right_parts h
    rw [moved, total, ih (p + m) h3, moved1, if_pos (by omega)]

/-- THE LAW: of right edits: what takes them back are edits of what they make, make the text of it, and are taken back by them. -/
theorem back_law (s : ByteArray) (l : List Ed) (h : right s.size 0 l = true) :
    right (applied s l).size 0 (backL s 0 l) = true ∧ applied (applied s l) (backL s 0 l) = s ∧ backL (applied s l) 0 (backL s 0 l) = l ∧ (s.size : Int) + moved s.size l = (applied s l).size := by
  have hT : (applied s l).data.toList = [] ++ applyL s.data.toList 0 l := by simp [applied]
  have hz : (applied s l).size = (applyL s.data.toList 0 l).length := by rw [← bytes_len, hT]; rfl
  refine ⟨back_right s l 0 0 0 _ h (Nat.zero_le _) rfl (by omega), ?_, ?_, ?_⟩
  · refine bytes_eq ?_
    have h2 := back_apply s l 0 0 [] h (Nat.zero_le _) rfl
    simp only [List.length_nil, List.drop_zero] at h2
    show (applyL (applied s l).data.toList 0 (backL s 0 l)).toArray.toList = _
    rw [hT, h2]
  · have h2 := back_back s l 0 0 [] (applied s l) h (Nat.zero_le _) rfl hT
    simpa using h2
  · have h2 := apply_len s.data.toList l 0 (by rw [bytes_len]; exact h) (Nat.zero_le _)
    rw [bytes_len] at h2
    rw [moved_total s.size l 0 h, hz, h2]
    omega

end Go.Proofs.YtkfdjffoljkomaaDoor
