/-
  A head, as the program reads it, is the document's, plainly. No program here.
-/
import Derived.Lib.ItoaNum
import Derived.Lib.AtoiAll
import Derived.Lib.AtoiTie
import Derived.Lib.IndexMore
import Derived.Lib.CutLaws
import Derived.Lib.SplitLaws
import Derived.Test.YtjlehlkkgkplmaaDoorFrQ
set_option linter.unusedSimpArgs false
set_option linter.unusedVariables false
namespace Go.Proofs.YtjlehlkkgkplmaaDoor
open Go.RowKit

/-! ### Numbers -/
theorem digitsN_dec : ∀ (k n : Nat), n < k → digitsN k n = Lib.decDigits n
  | 0, _, h => absurd h (by omega)
  | k + 1, n, h => by
    rw [digitsN, Lib.decDigits]
    by_cases h10 : n < 10
    · rw [if_pos h10, dif_pos h10]
    · rw [if_neg h10, dif_neg h10, digitsN_dec k (n / 10) (by omega)]
theorem digs_dec (n : Nat) : digs n = Lib.decDigits n := digitsN_dec _ _ (Nat.lt_succ_self n)
theorem itoa_digs (n : Nat) : Lib.itoa (n : Int) = digs n := by
  unfold Lib.itoa
  rw [if_neg (by omega), digs_dec]
  rfl
theorem numOf_iff {v : List UInt8} {n : Nat} : numOf v = some n ↔ n ≤ 9000 ∧ v = digs n := by
  constructor
  · intro h
    unfold numOf at h
    simp only at h
    split at h
    · rename_i hc
      obtain rfl := Option.some.inj h
      exact ⟨hc.2.1, hc.2.2.symm⟩
    · cases h
  · rintro ⟨h, rfl⟩
    exact numOK_num h
/-- What 'Atoi' and 'Itoa' make of a value. -/
def atoiOK (n : Nat) : Bool := decide (Lib.atoi (digs n) = some (n : Int))
theorem atoi_all : (List.range 9001).all atoiOK = true := by decide +kernel
theorem atoi_digs {n : Nat} (h : n ≤ 9000) : Lib.atoi (digs n) = some (n : Int) := by
  have := List.all_eq_true.1 atoi_all n (List.mem_range.2 (by omega))
  unfold atoiOK at this
  simpa using this
theorem atoiAll_digs {n : Nat} (h : n ≤ 9000) : Lib.atoiAll (digs n) = .ok (n : Int) := by
  rw [Lib.atoiAll_short _ (by have := numOK_len h; omega), atoi_digs h]
  rfl
/-- A value is right just if 'Atoi' reads it, it is no more than nine thousand, and 'Itoa' writes it. -/
theorem num_reads {v : List UInt8} {m : Int} (h : Lib.atoiAll v = .ok m) : (∃ n : Nat, numOf v = some n ∧ m = n) ∨ (numOf v = none ∧ (m < 0 ∨ 9000 < m ∨ Lib.itoa m ≠ v)) := by
  by_cases h0 : m < 0
  · refine .inr ⟨?_, .inl h0⟩
    cases hn : numOf v with
    | none => rfl
    | some n =>
      exfalso
      obtain ⟨h1, rfl⟩ := numOf_iff.1 hn
      rw [atoiAll_digs h1] at h
      cases h
      omega
  · obtain ⟨n, rfl⟩ : ∃ n : Nat, m = (n : Int) := ⟨m.toNat, by omega⟩
    by_cases h9 : 9000 < n
    · refine .inr ⟨?_, .inr (.inl (by omega))⟩
      cases hn : numOf v with
      | none => rfl
      | some k =>
        exfalso
        obtain ⟨h1, rfl⟩ := numOf_iff.1 hn
        rw [atoiAll_digs h1] at h
        cases h
        omega
    · by_cases hv : Lib.itoa (n : Int) = v
      · refine .inl ⟨n, numOf_iff.2 ⟨by omega, ?_⟩, rfl⟩
        rw [← hv, itoa_digs]
      · refine .inr ⟨?_, .inr (.inr hv)⟩
        cases hn : numOf v with
        | none => rfl
        | some k =>
          exfalso
          obtain ⟨h1, rfl⟩ := numOf_iff.1 hn
          rw [atoiAll_digs h1] at h
          cases h
          exact hv (itoa_digs _)
theorem num_fails {v : List UInt8} (h : ∀ m, Lib.atoiAll v ≠ .ok m) : numOf v = none := by
  cases hn : numOf v with
  | none => rfl
  | some k =>
    obtain ⟨h1, rfl⟩ := numOf_iff.1 hn
    exact absurd (atoiAll_digs h1) (h _)

/-! ### Ends -/
theorem pre_take (sub l : List UInt8) : sub.isPrefixOf l = true ↔ l.take sub.length = sub := by
  rw [List.isPrefixOf_iff_prefix]
  constructor
  · rintro ⟨r, rfl⟩
    exact List.take_left
  · intro h
    exact ⟨l.drop sub.length, by
      have := List.take_append_drop sub.length l
      rw [h] at this
      exact this⟩
theorem endOf_index : ∀ l : List UInt8, Lib.index l [13, 10, 13, 10] = match endOf l with | none => -1 | some i => (i : Int)
  | [] => rfl
  | c :: l => by
    have ih := endOf_index l
    by_cases hc : (c :: l).take 4 = [13, 10, 13, 10]
    · have hp : ([13, 10, 13, 10] : List UInt8).isPrefixOf (c :: l) = true := (pre_take _ _).2 hc
      rw [Lib.index, if_pos hp, endOf, if_pos hc]
      rfl
    · have hp : ¬ ([13, 10, 13, 10] : List UInt8).isPrefixOf (c :: l) = true := fun e => hc ((pre_take _ _).1 e)
      rw [Lib.index, if_neg hp, endOf, if_neg hc, ih]
      cases endOf l with
      | none => simp
      | some i =>
        have : ¬ ((i : Int) == -1) = true := by first | (simp; done) | (simp; omega)
        simp only [this, if_false, Option.map_some]
        simp

/-! ### A line -/
/-- What the program says of a line. -/
def pLine (l : List UInt8) : Option (List UInt8 × List UInt8) :=
  let c := Lib.cut l [58, 32]
  if c.2.2 = true ∧ (c.1 ≠ [] ∧ c.1.all isNameB = true) ∧ c.2.1.all isValB = true then some (c.1, c.2.1) else none
theorem occ_take (l : List UInt8) (i : Nat) : Lib.occAt l [58, 32] i = true ↔ (l.drop i).take 2 = [58, 32] := by
  unfold Lib.occAt
  exact pre_take _ _
theorem takeWhile_exact : ∀ (l : List UInt8) (n : Nat) (c : UInt8), (l.take n).all isNameB = true → l[n]? = some c → isNameB c = false → (l.takeWhile isNameB).length = n
  | [], n, c, _, h, _ => by simp at h
  | d :: l, 0, c, _, h, hc => by
    obtain rfl : d = c := by simpa using h
    rw [List.takeWhile_cons_of_neg (by simp [hc])]
    rfl
  | d :: l, n + 1, c, ha, h, hc => by
    simp only [List.take_succ_cons, List.all_cons, Bool.and_eq_true] at ha
    rw [List.takeWhile_cons_of_pos ha.1, List.length_cons, takeWhile_exact l n c ha.2 (by simpa using h) hc]
theorem takeWhile_take : ∀ l : List UInt8, (l.take (l.takeWhile isNameB).length).all isNameB = true
  | [] => rfl
  | d :: l => by
    by_cases hd : isNameB d = true
    · rw [List.takeWhile_cons_of_pos hd, List.length_cons, List.take_succ_cons, List.all_cons, hd, takeWhile_take l]
      rfl
    · rw [List.takeWhile_cons_of_neg hd]
      rfl
theorem pLine_is (l : List UInt8) : pLine l = lineOf l := by
  rcases Lib.index_spec l [58, 32] with ⟨h1, h2⟩ | ⟨i, h1, h2, h3, h4⟩
  · -- no ": "
    have hc : Lib.cut l [58, 32] = (l, [], false) := by unfold Lib.cut; rw [h1]; rfl
    unfold pLine lineOf
    rw [hc]
    simp only
    rw [if_neg (fun h => by cases h.1), if_pos]
    refine .inr (.inl fun e => ?_)
    have hle : (l.takeWhile isNameB).length ≤ l.length := (List.takeWhile_sublist _).length_le
    have := h2 _ hle
    rw [(occ_take _ _).2 e] at this
    cases this
  · have hc : Lib.cut l [58, 32] = (l.take i, l.drop (i + 2), true) := by
      unfold Lib.cut
      rw [h1, if_pos (by omega)]
      simp
    have ho := (occ_take l i).1 h3
    have hget : l[i]? = some 58 := by
      have e : (l.drop i)[0]? = some 58 := by
        have e1 : ((l.drop i).take 2)[0]? = some 58 := by rw [ho]; rfl
        rw [List.getElem?_take] at e1
        simpa using e1
      simpa using e
    unfold pLine lineOf
    rw [hc]
    simp only
    by_cases hn : (l.take i).all isNameB = true
    · have hlen := takeWhile_exact l i 58 hn hget (by decide)
      rw [hlen]
      by_cases h0 : i = 0
      · subst h0
        rw [if_neg (fun h => h.2.1.1 (by simp)), if_pos (.inl rfl)]
      · have hne : l.take i ≠ [] := fun e => by
          have h9 := congrArg List.length e
          rw [List.length_take, List.length_nil] at h9
          have hlt : i < l.length := (List.getElem?_eq_some_iff.1 hget).1
          omega
        by_cases hv : (l.drop (i + 2)).all isValB = true
        · rw [if_pos ⟨by simp, ⟨hne, hn⟩, hv⟩, if_neg]
          rintro (h | h | h)
          · exact h0 h
          · exact h ho
          · rw [hv] at h; cases h
        · rw [if_neg (fun h => hv h.2.2), if_pos (.inr (.inr (by simpa using hv)))]
    · rw [if_neg (fun h => hn h.2.1.2), if_pos]
      -- the name's run ends ahead of ": "
      by_cases hk0 : (l.takeWhile isNameB).length = 0
      · exact .inl hk0
      · refine .inr (.inl fun e => ?_)
        have hk := takeWhile_take l
        rcases Nat.lt_or_ge (l.takeWhile isNameB).length i with hlt | hge
        · have := h4 _ hlt
          rw [(occ_take _ _).2 e] at this
          cases this
        · apply hn
          rw [List.all_eq_true] at hk ⊢
          intro c hc
          refine hk c ?_
          rw [← Nat.min_eq_left hge, ← List.take_take] at hc
          exact List.mem_of_mem_take hc

/-! ### A head's lines -/
/-- What the program says of the lines: the value of the length, if there was one. -/
def pGo : Option (List UInt8) → List (List UInt8) → Option (Option (List UInt8))
  | out, [] => some out
  | out, l :: ls => match lineOf l with
    | none => none
    | some (name, v) => if name = lengthName then (if out.isSome then none else pGo (some v) ls) else pGo out ls
def pSize (ls : List (List UInt8)) : Option Nat := (pGo none ls).bind fun o => numOf (o.getD [])
theorem numOf_nil : numOf [] = none := by
  cases h : numOf [] with
  | none => rfl
  | some n =>
    obtain ⟨h1, h2⟩ := numOf_iff.1 h
    have := (numOK_len h1).1
    rw [← h2] at this
    simp at this
theorem pGo_some : ∀ (ls : List (List UInt8)) (v : List UInt8), (pGo (some v) ls = some (some v) ∨ pGo (some v) ls = none)
  | [], v => .inl rfl
  | l :: ls, v => by
    rw [pGo]
    cases lineOf l with
    | none => exact .inr rfl
    | some p =>
      obtain ⟨name, x⟩ := p
      simp only
      split
      · exact .inr rfl
      · exact pGo_some ls v
theorem sizeGo_some : ∀ (ls : List (List UInt8)) (v : List UInt8) (n : Nat), (pGo (some v) ls = some (some v) → sizeGo (some n) ls = some n) ∧ (pGo (some v) ls = none → sizeGo (some n) ls = none)
  | [], v, n => ⟨fun _ => rfl, fun h => by cases h⟩
  | l :: ls, v, n => by
    rw [pGo, sizeGo]
    cases lineOf l with
    | none => exact ⟨(fun h => by cases h), fun _ => rfl⟩
    | some p =>
      obtain ⟨name, x⟩ := p
      simp only
      split
      · exact ⟨(fun h => by cases h), fun _ => rfl⟩
      · exact sizeGo_some ls v n
theorem pSize_is : ∀ ls : List (List UInt8), pSize ls = sizeGo none ls
  | [] => by simp [pSize, pGo, sizeGo, numOf_nil]
  | l :: ls => by
    have ih := pSize_is ls
    unfold pSize at ih ⊢
    rw [pGo, sizeGo]
    cases lineOf l with
    | none => rfl
    | some p =>
      obtain ⟨name, x⟩ := p
      simp only
      by_cases hn : name = lengthName
      · rw [if_pos hn, if_pos hn]
        simp only [Option.isSome_none, Bool.false_eq_true, if_false]
        rcases pGo_some ls x with h | h
        · rw [h]
          simp only [Option.bind_some, Option.getD_some]
          cases hx : numOf x with
          | none => rfl
          | some n => exact ((sizeGo_some ls x n).1 h).symm
        · rw [h]
          simp only [Option.bind_none]
          cases hx : numOf x with
          | none => rfl
          | some n => exact ((sizeGo_some ls x n).2 h).symm
      · rw [if_neg hn, if_neg hn]
        exact ih
end Go.Proofs.YtjlehlkkgkplmaaDoor
