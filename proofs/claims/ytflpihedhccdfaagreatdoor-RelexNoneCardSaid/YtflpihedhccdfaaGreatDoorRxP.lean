/-
  A text's lines behind a splice, plainly. No program here.
-/
import Derived.Test.YtflpihedhccdfaaGreatDoorRxL
set_option linter.unusedSimpArgs false
set_option linter.unusedVariables false
namespace Go.Proofs.YtflpihedhccdfaaGreatDoor
open Go.RowKit

/-- Lines with their ends, lines behind an end each. -/
def preL (xs : List (List UInt8)) : List UInt8 := (xs.map (fun p => p ++ [10])).flatten
def postL (xs : List (List UInt8)) : List UInt8 := (xs.map (fun p => 10 :: p)).flatten
def Free (xs : List (List UInt8)) : Prop := ∀ p ∈ xs, ∀ c ∈ p, c ≠ (10 : UInt8)

theorem lines_free : ∀ l : List UInt8, Free (linesL l)
  | [] => fun p hp c hc => by simp [linesL] at hp; subst hp; cases hc
  | d :: l => by
    have ih := lines_free l
    have hne := linesL_ne l
    intro p hp c hc
    cases hl : linesL l with
    | nil => exact absurd hl hne
    | cons q qs =>
      rw [hl] at ih
      by_cases hd : d = 10
      · simp only [linesL, hd, if_true, hl, List.mem_cons] at hp
        rcases hp with rfl | rfl | hp
        · cases hc
        · exact ih _ List.mem_cons_self c hc
        · exact ih _ (List.mem_cons_of_mem _ hp) c hc
      · simp only [linesL, if_neg hd, hl, List.mem_cons] at hp
        rcases hp with rfl | hp
        · rcases List.mem_cons.1 hc with rfl | hc
          · exact hd
          · exact ih _ List.mem_cons_self c hc
        · exact ih _ (List.mem_cons_of_mem _ hp) c hc
theorem lines_len : ∀ l : List UInt8, (linesL l).length = l.count 10 + 1
  | [] => rfl
  | d :: l => by
    have ih := lines_len l
    cases hl : linesL l with
    | nil => exact absurd hl (linesL_ne l)
    | cons q qs =>
      rw [hl] at ih
      by_cases hd : d = 10
      · simp only [linesL, hd, if_true, hl, List.length_cons, List.count_cons_self] at ih ⊢; omega
      · simp only [linesL, if_neg hd, hl, List.length_cons, List.count_cons_of_ne hd] at ih ⊢; omega
theorem lines_pre : ∀ (xs : List (List UInt8)) (b : List UInt8), Free xs → linesL (preL xs ++ b) = xs ++ linesL b
  | [], b, _ => rfl
  | x :: xs, b, h => by
    have ih := lines_pre xs b (fun p hp => h p (List.mem_cons_of_mem _ hp))
    have e : preL (x :: xs) ++ b = x ++ 10 :: (preL xs ++ b) := by simp [preL]
    rw [e, linesL_at _ _ (h x List.mem_cons_self), ih]
    rfl
theorem lines_app (b : List UInt8) : ∀ (a : List UInt8), linesL (a ++ 10 :: b) = linesL a ++ linesL b
  | [] => by simp [linesL]
  | c :: a => by
    have ih := lines_app b a
    cases hl : linesL a with
    | nil => exact absurd hl (linesL_ne a)
    | cons q qs =>
      rw [hl] at ih
      by_cases hc : c = 10
      · simp only [List.cons_append, linesL, hc, if_true, ih, hl]
      · simp only [List.cons_append, linesL, if_neg hc, ih, hl]
theorem lines_post : ∀ (xs : List (List UInt8)) (a : List UInt8), Free xs → linesL (a ++ postL xs) = linesL a ++ xs
  | [], a, _ => by simp [postL]
  | x :: xs, a, h => by
    have ih := lines_post xs x (fun p hp => h p (List.mem_cons_of_mem _ hp))
    have e : a ++ postL (x :: xs) = a ++ 10 :: (x ++ postL xs) := by simp [postL]
    rw [e, lines_app, ih, linesL_none x (h x List.mem_cons_self)]
    rfl
theorem join_pre : ∀ (xs : List (List UInt8)) (y : List UInt8) (ys : List (List UInt8)), join10 (xs ++ y :: ys) = preL xs ++ join10 (y :: ys)
  | [], y, ys => rfl
  | [x], y, ys => by simp [join10, preL]
  | x :: x2 :: xs, y, ys => by
    have ih := join_pre (x2 :: xs) y ys
    simp only [List.cons_append] at ih
    simp only [List.cons_append, join10, ih]
    simp [preL]
theorem join_post : ∀ (y : List UInt8) (ys : List (List UInt8)), join10 (y :: ys) = y ++ postL ys
  | y, [] => by simp [join10, postL]
  | y, z :: zs => by
    have ih := join_post z zs
    simp only [join10, ih]
    simp [postL]
theorem stL_pre : ∀ (xs : List (List UInt8)) (f : Nat) (y : List UInt8) (ys : List (List UInt8)), (stL f (xs ++ y :: ys))[xs.length]? = some (f + (preL xs).length)
  | [], f, y, ys => by simp [stL, preL]
  | x :: xs, f, y, ys => by
    have ih := stL_pre xs (f + x.length + 1) y ys
    simp only [List.cons_append, stL, List.length_cons, List.getElem?_cons_succ, ih]
    congr 1
    simp [preL]
    omega

/-- The line in which a place is, and where it begins: the last one that begins no later. -/
def findL : Nat → Nat → Nat → Nat → List Nat → Nat × Nat
  | _, _, n, b, [] => (n, b)
  | at_, i, n, b, st :: sts => if st ≤ at_ then findL at_ (i + 1) i st sts else findL at_ (i + 1) n b sts
def foundL (t : List UInt8) (p : Nat) : Nat × Nat := findL p 0 0 0 (stL 0 (linesL t))

/-- Line n of ls is y, behind xs, ahead of ys, and place p is in it. -/
structure InLine (ls : List (List UInt8)) (p n b : Nat) (xs : List (List UInt8)) (y : List UInt8) (ys : List (List UInt8)) : Prop where
  is : ls = xs ++ y :: ys
  num : n = xs.length
  beg : b = (preL xs).length
  le : b ≤ p
  ge : p ≤ b + y.length

theorem find_past (p : Nat) : ∀ (ls : List (List UInt8)) (i n b f : Nat), p < f → findL p i n b (stL f ls) = (n, b)
  | [], _, _, _, _, _ => rfl
  | x :: xs, i, n, b, f, h => by
    rw [stL, findL, if_neg (by omega)]
    exact find_past p xs (i + 1) n b (f + x.length + 1) (by omega)
theorem find_in (p : Nat) : ∀ (y : List UInt8) (ys : List (List UInt8)) (i n b f : Nat), f ≤ p → p ≤ f + (join10 (y :: ys)).length →
    ∃ zs z ws, y :: ys = zs ++ z :: ws ∧ findL p i n b (stL f (y :: ys)) = (i + zs.length, f + (preL zs).length) ∧ f + (preL zs).length ≤ p ∧ p ≤ f + (preL zs).length + z.length
  | y, ys, i, n, b, f, hf, hp => by
    by_cases h : p ≤ f + y.length
    · refine ⟨[], y, ys, rfl, ?_, by simpa [preL] using hf, by simpa [preL] using h⟩
      rw [stL, findL, if_pos hf, find_past p ys (i + 1) i f _ (by omega)]
      simp [preL]
    · cases ys with
      | nil => simp [join10] at hp; omega
      | cons z zs =>
        simp only [join10, List.length_append, List.length_cons] at hp
        obtain ⟨as, a, bs, h1, h2, h3, h4⟩ := find_in p z zs (i + 1) i f (f + y.length + 1) (by omega) (by omega)
        refine ⟨y :: as, a, bs, by rw [h1]; rfl, ?_, ?_, ?_⟩
        · rw [stL, findL, if_pos hf, h2]
          simp [preL]
          omega
        · simp [preL] at h3 ⊢; omega
        · simp [preL] at h4 ⊢; omega
theorem found_in (t : List UInt8) (p : Nat) (h : p ≤ t.length) : ∃ xs y ys, InLine (linesL t) p (foundL t p).1 (foundL t p).2 xs y ys := by
  cases hl : linesL t with
  | nil => exact absurd hl (linesL_ne t)
  | cons y ys =>
    have hj := join_lines t
    rw [hl] at hj
    obtain ⟨zs, z, ws, h1, h2, h3, h4⟩ := find_in p y ys 0 0 0 0 (Nat.zero_le _) (by rw [hj]; omega)
    unfold foundL
    rw [hl, h2]
    exact ⟨zs, z, ws, h1, by simp, by simp, by simpa using h3, by simpa using h4⟩

/-- The beginning of a text, and its end, by the line in which a place is. -/
theorem in_take {t : List UInt8} {p n b : Nat} {xs ys : List (List UInt8)} {y : List UInt8} (h : InLine (linesL t) p n b xs y ys) :
    t.take p = preL xs ++ y.take (p - b) ∧ t.drop p = y.drop (p - b) ++ postL ys := by
  have hj := join_lines t
  have e : t = preL xs ++ (y ++ postL ys) := by rw [← hj, h.is, join_pre, join_post]
  have hb := h.beg
  have h1 := h.le
  have h2 := h.ge
  constructor
  · conv => lhs; rw [e]
    rw [List.take_append, List.take_of_length_le (by omega), ← hb, List.take_append, show p - b - y.length = 0 by omega]
    simp
  · conv => lhs; rw [e]
    rw [List.drop_append, List.drop_of_length_le (by omega), ← hb, List.drop_append, show p - b - y.length = 0 by omega]
    simp
/-- The lines of a text behind a splice. -/
theorem splice_lines {t s : List UInt8} {p q n b m e : Nat} {xs ys zs ws : List (List UInt8)} {y z : List UInt8}
    (h : InLine (linesL t) p n b xs y ys) (k : InLine (linesL t) q m e zs z ws) :
    linesL (t.take p ++ s ++ t.drop q) = xs ++ linesL (y.take (p - b) ++ s ++ z.drop (q - e)) ++ ws := by
  have hfree := lines_free t
  have hx : Free xs := fun r hr => hfree r (by rw [h.is]; exact List.mem_append_left _ hr)
  have hw : Free ws := fun r hr => hfree r (by rw [k.is]; exact List.mem_append_right _ (List.mem_cons_of_mem _ hr))
  rw [(in_take h).1, (in_take k).2]
  have e1 : preL xs ++ y.take (p - b) ++ s ++ (z.drop (q - e) ++ postL ws) = preL xs ++ ((y.take (p - b) ++ s ++ z.drop (q - e)) ++ postL ws) := by simp
  rw [e1, lines_pre _ _ hx, lines_post _ _ hw, ← List.append_assoc]
theorem splice_len {t s : List UInt8} {p q n b m e : Nat} {xs ys zs ws : List (List UInt8)} {y z : List UInt8}
    (h : InLine (linesL t) p n b xs y ys) (k : InLine (linesL t) q m e zs z ws) :
    (linesL (y.take (p - b) ++ s ++ z.drop (q - e))).length = s.count 10 + 1 := by
  have hfree := lines_free t
  have hy : (y.take (p - b)).count 10 = 0 := List.count_eq_zero.2 fun hm => hfree y (by rw [h.is]; simp) 10 (List.mem_of_mem_take hm) rfl
  have hz : (z.drop (q - e)).count 10 = 0 := List.count_eq_zero.2 fun hm => hfree z (by rw [k.is]; simp) 10 (List.mem_of_mem_drop hm) rfl
  rw [lines_len, List.count_append, List.count_append, hy, hz]
  omega
/-- An earlier place is in no later line. -/
theorem find_mono (p q : Nat) (hpq : p ≤ q) : ∀ (sts : List Nat) (i n b m e : Nat), n ≤ m → n ≤ i → m ≤ i → (findL p i n b sts).1 ≤ (findL q i m e sts).1
  | [], _, _, _, _, _, h, _, _ => h
  | st :: sts, i, n, b, m, e, h, hn, hm => by
    simp only [findL]
    by_cases h1 : st ≤ p
    · rw [if_pos h1, if_pos (by omega)]
      exact find_mono p q hpq sts _ _ _ _ _ (Nat.le_refl _) (by omega) (by omega)
    · rw [if_neg h1]
      by_cases h2 : st ≤ q
      · rw [if_pos h2]
        exact find_mono p q hpq sts _ _ _ _ _ hn (by omega) (by omega)
      · rw [if_neg h2]
        exact find_mono p q hpq sts _ _ _ _ _ h (by omega) (by omega)

end Go.Proofs.YtflpihedhccdfaaGreatDoor
