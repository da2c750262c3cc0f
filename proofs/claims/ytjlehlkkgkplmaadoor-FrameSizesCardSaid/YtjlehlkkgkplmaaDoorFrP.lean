/-
  Frames of a stream, as the document tells them, plainly. No program here.
-/
import Derived.Test.YtjlehlkkgkplmaaDoorReg
import Derived.WalkKit
set_option linter.unusedSimpArgs false
set_option linter.unusedVariables false
namespace Go.Proofs.YtjlehlkkgkplmaaDoor
open Go.RowKit

/-- Where a head's end stands in a text: the first two line ends behind one another. -/
def endOf : List UInt8 → Option Nat
  | [] => none
  | c :: l => if (c :: l).take 4 = [13, 10, 13, 10] then some 0 else (endOf l).map (· + 1)
/-- The lines of a head, between its line ends. -/
def linesR : Nat → List UInt8 → List UInt8 → List (List UInt8)
  | 0, cur, _ => [cur]
  | _ + 1, cur, [] => [cur]
  | k + 1, cur, c :: l => if (c :: l).take 2 = [13, 10] then cur :: linesR k [] (l.drop 1) else linesR k (cur ++ [c]) l
def headLines (h : List UInt8) : List (List UInt8) := linesR (h.length + 1) [] h
def isNameB (c : UInt8) : Bool := (decide (97 ≤ c.toNat) && decide (c.toNat ≤ 122)) || ((decide (65 ≤ c.toNat) && decide (c.toNat ≤ 90)) || c == 45)
def isValB (c : UInt8) : Bool := decide (32 ≤ c.toNat) && decide (c.toNat ≤ 126)
/-- A line's name and value. -/
def lineOf (l : List UInt8) : Option (List UInt8 × List UInt8) :=
  let n := (l.takeWhile isNameB).length
  if n = 0 ∨ (l.drop n).take 2 ≠ [58, 32] ∨ (l.drop (n + 2)).all isValB = false then none else some (l.take n, l.drop (n + 2))
def lengthName : List UInt8 := [67, 111, 110, 116, 101, 110, 116, 45, 76, 101, 110, 103, 116, 104]
/-- A number's digits. -/
def digitsN : Nat → Nat → List UInt8
  | 0, _ => []
  | k + 1, n => if n < 10 then [UInt8.ofNat (48 + n)] else digitsN k (n / 10) ++ [UInt8.ofNat (48 + n % 10)]
def digs (n : Nat) : List UInt8 := digitsN (n + 1) n
/-- A value's number: digits without noughts ahead, at most nine thousand. -/
def numOf (v : List UInt8) : Option Nat :=
  let n := v.foldl (fun n c => 10 * n + (c.toNat - 48)) 0
  if v.length ≤ 4 ∧ n ≤ 9000 ∧ digs n = v then some n else none
/-- How many bytes the body has, by the lines that are left. -/
def sizeGo : Option Nat → List (List UInt8) → Option Nat
  | out, [] => out
  | out, l :: ls => match lineOf l with
    | none => none
    | some (name, v) => if name = lengthName then (if out.isSome then none else match numOf v with | none => none | some n => sizeGo (some n) ls) else sizeGo out ls
def headSize (h : List UInt8) : Option Nat := sizeGo none (headLines h)

/-- What a stream begins with: nothing whole yet, no frame, a frame (how many bytes its head has, how many its body). -/
inductive Fr
  | more
  | bad
  | got (h n : Nat)
  deriving DecidableEq
def frOf (s : List UInt8) : Fr := match endOf (s.take 100) with
  | none => if 100 ≤ s.length ∨ s.take 2 = [13, 10] then .bad else .more
  | some i => match headSize (s.take i) with
    | none => .bad
    | some n => if s.length < i + 4 + n then .more else .got (i + 4) n
/-- The bodies, what is left, is it wrong? -/
def splitGo : Nat → List UInt8 → List (List UInt8) × List UInt8 × Bool
  | 0, s => ([], s, false)
  | k + 1, s => match frOf s with
    | .more => ([], s, false)
    | .bad => ([], [], true)
    | .got h n => let r := splitGo k (s.drop (h + n)); ((s.drop h).take n :: r.1, r.2)
def splitS (s : List UInt8) : List (List UInt8) × List UInt8 × Bool := splitGo (s.length + 1) s

/-! ### A longer stream begins with the same -/
theorem endOf_lt : ∀ (l : List UInt8) (i : Nat), endOf l = some i → i + 4 ≤ l.length ∧ (l.drop i).take 4 = [13, 10, 13, 10]
  | [], i, h => by simp [endOf] at h
  | c :: l, i, h => by
    by_cases hc : (c :: l).take 4 = [13, 10, 13, 10]
    · rw [endOf, if_pos hc] at h
      obtain rfl := Option.some.inj h
      have := congrArg List.length hc
      simp only [List.length_take, List.length_cons, List.length_nil] at this
      exact ⟨by simp; omega, by rw [List.drop_zero]; exact hc⟩
    · rw [endOf, if_neg hc] at h
      cases hl : endOf l with
      | none => rw [hl] at h; cases h
      | some j =>
        rw [hl] at h
        obtain rfl := Option.some.inj h
        obtain ⟨h1, h2⟩ := endOf_lt l j hl
        exact ⟨by simp; omega, by simpa using h2⟩
theorem endOf_app (b : List UInt8) : ∀ (l : List UInt8) (i : Nat), endOf l = some i → endOf (l ++ b) = some i
  | [], i, h => by simp [endOf] at h
  | c :: l, i, h => by
    by_cases hc : (c :: l).take 4 = [13, 10, 13, 10]
    · have hlen := congrArg List.length hc
      simp only [List.length_take, List.length_cons, List.length_nil] at hlen
      have e : (c :: (l ++ b)).take 4 = [13, 10, 13, 10] := by
        rw [← List.cons_append, List.take_append_of_le_length (by simp; omega)]
        exact hc
      rw [endOf, if_pos hc] at h
      rw [List.cons_append, endOf, if_pos e]
      exact h
    · rw [endOf, if_neg hc] at h
      cases hl : endOf l with
      | none => rw [hl] at h; cases h
      | some j =>
        have hlen := (endOf_lt l j hl).1
        have e : ¬ (c :: (l ++ b)).take 4 = [13, 10, 13, 10] := by
          rw [← List.cons_append, List.take_append_of_le_length (by simp; omega)]
          exact hc
        rw [List.cons_append, endOf, if_neg e, endOf_app b l j hl]
        rw [hl] at h
        exact h
/-- A stream that has an end within n bytes has the same one, longer. -/
theorem endOf_take {s b : List UInt8} {i n : Nat} (h : endOf (s.take n) = some i) : endOf ((s ++ b).take n) = some i := by
  rw [List.take_append]
  exact endOf_app _ _ _ h
theorem lineOf_none : lineOf [] = none := by simp [lineOf]
theorem headLines_cons (h : List UInt8) : ∃ l ls, headLines h = l :: ls := by
  unfold headLines
  cases h with
  | nil => exact ⟨_, _, rfl⟩
  | cons c l =>
    have g : ∀ (k : Nat) (cur l : List UInt8), ∃ x xs, linesR k cur l = x :: xs := by
      intro k
      induction k with
      | zero => exact fun cur l => ⟨_, _, rfl⟩
      | succ k ih =>
        intro cur l
        cases l with
        | nil => exact ⟨_, _, rfl⟩
        | cons c l =>
          rw [linesR]
          split
          · exact ⟨_, _, rfl⟩
          · exact ih _ _
    exact g _ _ _
theorem headSize_end {h : List UInt8} (he : h = [] ∨ h.take 2 = [13, 10]) : headSize h = none := by
  unfold headSize
  have e : ∃ ls, headLines h = [] :: ls := by
    rcases he with rfl | he
    · exact ⟨_, rfl⟩
    · cases h with
      | nil => cases he
      | cons c l =>
        unfold headLines
        rw [List.length_cons, linesR, if_pos he]
        exact ⟨_, rfl⟩
  obtain ⟨ls, e⟩ := e
  rw [e, sizeGo, lineOf_none]
theorem frOf_got {s b : List UInt8} {h n : Nat} (e : frOf s = .got h n) : frOf (s ++ b) = .got h n ∧ 4 ≤ h ∧ h + n ≤ s.length := by
  unfold frOf at e ⊢
  cases hi : endOf (s.take 100) with
  | none => rw [hi] at e; simp only at e; split at e <;> cases e
  | some i =>
    rw [hi] at e
    rw [endOf_take hi]
    simp only at e ⊢
    have hl := (endOf_lt _ _ hi).1
    rw [List.length_take] at hl
    have e2 : (s ++ b).take i = s.take i := List.take_append_of_le_length (by omega)
    rw [e2]
    cases hs : headSize (s.take i) with
    | none => rw [hs] at e; cases e
    | some m =>
      rw [hs] at e
      simp only at e ⊢
      split at e
      · cases e
      · cases e
        rw [if_neg (by rw [List.length_append]; omega)]
        exact ⟨rfl, by omega, by omega⟩
theorem frOf_bad {s b : List UInt8} (e : frOf s = .bad) : frOf (s ++ b) = .bad := by
  unfold frOf at e ⊢
  cases hi : endOf (s.take 100) with
  | some i =>
    rw [hi] at e
    rw [endOf_take hi]
    simp only at e ⊢
    have hl := (endOf_lt _ _ hi).1
    rw [List.length_take] at hl
    have e2 : (s ++ b).take i = s.take i := List.take_append_of_le_length (by omega)
    rw [e2]
    cases hs : headSize (s.take i) with
    | none => rfl
    | some m =>
      rw [hs] at e
      simp only at e
      split at e <;> cases e
  | none =>
    rw [hi] at e
    simp only at e
    split at e
    · rename_i hc
      by_cases hlen : 100 ≤ s.length
      · have e1 : (s ++ b).take 100 = s.take 100 := List.take_append_of_le_length hlen
        rw [e1, hi]
        simp only
        rw [if_pos (.inl (by rw [List.length_append]; omega))]
      · have h2 : s.take 2 = [13, 10] := by
          rcases hc with hc | hc
          · exact absurd hc hlen
          · exact hc
        have hl2 := congrArg List.length h2
        simp only [List.length_take, List.length_cons, List.length_nil] at hl2
        have h3 : (s ++ b).take 2 = [13, 10] := by rw [List.take_append_of_le_length (by omega)]; exact h2
        cases hj : endOf ((s ++ b).take 100) with
        | none => simp only; rw [if_pos (.inr h3)]
        | some j =>
          simp only
          rw [headSize_end]
          by_cases hj2 : j ≤ 1
          · have e4 := (endOf_lt _ _ hj).2
            rcases (show j = 0 ∨ j = 1 by omega) with rfl | rfl
            · exact .inl (by simp)
            · exfalso
              match s, h2, e4 with
              | c :: d :: r, h2, e4 =>
                obtain ⟨rfl, rfl⟩ : c = 13 ∧ d = 10 := by simpa using h2
                simp at e4
          · refine .inr ?_
            rw [List.take_take, Nat.min_eq_left (by omega)]
            exact h3
    · cases e
theorem frOf_more {s b : List UInt8} (h : frOf (s ++ b) = .more) : frOf s = .more := by
  cases e : frOf s with
  | more => rfl
  | bad => rw [frOf_bad e] at h; cases h
  | got a n => rw [(frOf_got e).1] at h; cases h

/-! ### Streams that are cut -/
theorem splitGo_enough : ∀ (k m : Nat) (s : List UInt8), s.length < k → s.length < m → splitGo k s = splitGo m s
  | 0, _, _, h, _ => absurd h (by omega)
  | _, 0, _, _, h => absurd h (by omega)
  | k + 1, m + 1, s, h1, h2 => by
    rw [splitGo, splitGo]
    cases e : frOf s with
    | more => rfl
    | bad => rfl
    | got a n =>
      obtain ⟨_, g1, g2⟩ := frOf_got (b := []) e
      have hl : (s.drop (a + n)).length < k ∧ (s.drop (a + n)).length < m := by rw [List.length_drop]; omega
      simp only
      rw [splitGo_enough k m _ hl.1 hl.2]
theorem splitS_eq (s : List UInt8) : splitS s = match frOf s with
    | .more => ([], s, false)
    | .bad => ([], [], true)
    | .got h n => ((s.drop h).take n :: (splitS (s.drop (h + n))).1, (splitS (s.drop (h + n))).2) := by
  unfold splitS
  rw [splitGo]
  cases e : frOf s with
  | more => rfl
  | bad => rfl
  | got a n =>
    obtain ⟨_, g1, g2⟩ := frOf_got (b := []) e
    simp only
    rw [splitGo_enough s.length ((s.drop (a + n)).length + 1) _ (by rw [List.length_drop]; omega) (by omega)]
/-- What comes behind goes behind what is left. -/
theorem splitS_app (b : List UInt8) : ∀ (k : Nat) (s : List UInt8), s.length < k →
    splitS (s ++ b) = if (splitS s).2.2 = true then splitS s else ((splitS s).1 ++ (splitS ((splitS s).2.1 ++ b)).1, (splitS ((splitS s).2.1 ++ b)).2)
  | 0, _, h => absurd h (by omega)
  | k + 1, s, h => by
    cases e : frOf s with
    | more =>
      have h1 : splitS s = ([], s, false) := by rw [splitS_eq, e]
      rw [h1]
      simp
    | bad =>
      have h1 : splitS s = ([], [], true) := by rw [splitS_eq, e]
      rw [h1, splitS_eq, frOf_bad e]
      simp
    | got a n =>
      obtain ⟨g0, g1, g2⟩ := frOf_got (b := b) e
      have h1 : splitS s = ((s.drop a).take n :: (splitS (s.drop (a + n))).1, (splitS (s.drop (a + n))).2) := by rw [splitS_eq, e]
      have ih := splitS_app b k (s.drop (a + n)) (by rw [List.length_drop]; omega)
      rw [splitS_eq, g0]
      simp only
      have d1 : (s ++ b).drop (a + n) = s.drop (a + n) ++ b := List.drop_append_of_le_length (by omega)
      have d2 : ((s ++ b).drop a).take n = (s.drop a).take n := by
        rw [List.drop_append_of_le_length (by omega), List.take_append_of_le_length (by rw [List.length_drop]; omega)]
      rw [d1, d2, ih, h1]
      split
      · rfl
      · simp
/-- What is left has no whole frame. -/
theorem splitS_left : ∀ (k : Nat) (s : List UInt8), s.length < k → (splitS s).2.2 = false → frOf (splitS s).2.1 = .more
  | 0, _, h, _ => absurd h (by omega)
  | k + 1, s, h, hb => by
    cases e : frOf s with
    | more =>
      have h1 : splitS s = ([], s, false) := by rw [splitS_eq, e]
      rw [h1]
      exact e
    | bad =>
      have h1 : splitS s = ([], [], true) := by rw [splitS_eq, e]
      rw [h1] at hb
      cases hb
    | got a n =>
      obtain ⟨g0, g1, g2⟩ := frOf_got (b := []) e
      have h1 : splitS s = ((s.drop a).take n :: (splitS (s.drop (a + n))).1, (splitS (s.drop (a + n))).2) := by rw [splitS_eq, e]
      rw [h1] at hb ⊢
      exact splitS_left k _ (by rw [List.length_drop]; omega) hb
theorem splitS_bad : ∀ (k : Nat) (s : List UInt8), s.length < k → (splitS s).2.2 = true → (splitS s).2.1 = []
  | 0, _, h, _ => absurd h (by omega)
  | k + 1, s, h, hb => by
    cases e : frOf s with
    | more =>
      have h1 : splitS s = ([], s, false) := by rw [splitS_eq, e]
      rw [h1] at hb
      cases hb
    | bad =>
      have h1 : splitS s = ([], [], true) := by rw [splitS_eq, e]
      rw [h1]
    | got a n =>
      obtain ⟨g0, g1, g2⟩ := frOf_got (b := []) e
      have h1 : splitS s = ((s.drop a).take n :: (splitS (s.drop (a + n))).1, (splitS (s.drop (a + n))).2) := by rw [splitS_eq, e]
      rw [h1] at hb ⊢
      exact splitS_bad k _ (by rw [List.length_drop]; omega) hb
theorem splitS_more {s : List UInt8} (h : frOf s = .more) : splitS s = ([], s, false) := by rw [splitS_eq, h]
/-- What is left is short. -/
theorem left_short {s : List UInt8} (h : frOf s = .more) : s.length < 100 + 9000 := by
  unfold frOf at h
  cases hi : endOf (s.take 100) with
  | none =>
    rw [hi] at h
    simp only at h
    split at h
    · cases h
    · rename_i hc
      have : ¬ 100 ≤ s.length := fun e => hc (.inl e)
      omega
  | some i =>
    rw [hi] at h
    simp only at h
    have hl := (endOf_lt _ _ hi).1
    rw [List.length_take] at hl
    cases hs : headSize (s.take i) with
    | none => rw [hs] at h; cases h
    | some n =>
      rw [hs] at h
      simp only at h
      have hn : n ≤ 9000 := by
        have g : ∀ (ls : List (List UInt8)) (out : Option Nat) (n : Nat), (∀ m, out = some m → m ≤ 9000) → sizeGo out ls = some n → n ≤ 9000 := by
          intro ls
          induction ls with
          | nil => exact fun out n h1 h2 => h1 n h2
          | cons l ls ih =>
            intro out n h1 h2
            rw [sizeGo] at h2
            cases hl : lineOf l with
            | none => rw [hl] at h2; cases h2
            | some p =>
              obtain ⟨name, v⟩ := p
              rw [hl] at h2
              simp only at h2
              split at h2
              · split at h2
                · cases h2
                · cases hv : numOf v with
                  | none => rw [hv] at h2; cases h2
                  | some m =>
                    rw [hv] at h2
                    refine ih (some m) n (fun m' e => ?_) h2
                    cases e
                    unfold numOf at hv
                    simp only at hv
                    split at hv
                    · rename_i hc
                      obtain rfl := Option.some.inj hv
                      exact hc.2.1
                    · cases hv
              · exact ih out n h1 h2
        exact g _ _ _ (fun m e => by cases e) hs
      split at h
      · omega
      · cases h
end Go.Proofs.YtjlehlkkgkplmaaDoor
