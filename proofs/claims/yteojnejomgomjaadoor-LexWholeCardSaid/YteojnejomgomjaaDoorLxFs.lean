/-
  The first token of a text: by the program.
-/
import Derived.Test.YteojnejomgomjaaDoorProg
import Derived.Test.YteojnejomgomjaaDoorReg
import Derived.WalkKit
import Derived.WalkSpells
import Derived.WalkLawsBesides
import Derived.Lib.Hide
import Derived.Lib.MinMax
import Derived.Deep.QuietTactic
import Derived.BigQuiet
import Derived.OwnWalk
import Derived.Deep.AppendLies
import Derived.KernelRfl
import Derived.Test.YteojnejomgomjaaDoorLxC
import Derived.Test.YteojnejomgomjaaDoorLxNa
import Derived.Test.YteojnejomgomjaaDoorLxTx
import Derived.Test.YteojnejomgomjaaDoorLxSg
import Derived.Test.YteojnejomgomjaaDoorLxNu
set_option linter.unusedSimpArgs false
set_option linter.unusedVariables false
namespace Go.Proofs.YteojnejomgomjaaDoor
open Go.RowKit Go.Maps

/-! ### The steps, plainly -/
def stepsOf (s : ByteArray) : List Tok := [tBlank s, tRemark s, tText s, tNumber s, tName s, tSign s, tOther s]
def pickTok : List Tok → Tok
  | [] => noTok
  | x :: l => if x.kind = 0 then pickTok l else x
theorem number_kind (s : ByteArray) (n : Nat) : (dNumber s n).kind ≠ 0 := by
  unfold dNumber
  simp only
  split
  · exact (by decide : (10 : Int) ≠ 0)
  · exact (by decide : (3 : Int) ≠ 0)
theorem digits_zero {s : ByteArray} (h : 0 < s.size) : dDigits (s.extract 0 s.size) = 0 ↔ ¬ (48 ≤ byte0 s ∧ byte0 s ≤ 57) := by
  rw [ext_all s (Nat.le_refl _), byte0_at' h]
  unfold dDigits many
  have e := bytes_drop h
  rw [List.drop_zero] at e
  rw [e, List.takeWhile_cons]
  cases hd : isDig (s[0]'h) with
  | true =>
    unfold isDig at hd
    simp only [Bool.and_eq_true, decide_eq_true_eq] at hd
    simp
    omega
  | false =>
    unfold isDig at hd
    simp only [Bool.and_eq_false_iff, decide_eq_false_iff_not] at hd
    simp
    omega
theorem sign_class {s : ByteArray} (h : 0 < (gFirst s).2) : 1 ≤ gClass (gFirst s).1 := by
  have key : ∀ (l : List Gly) (m : List Gly), (∀ x ∈ l, 1 ≤ classIn x.glyph m) → 0 < (firstIn s l).2 → 1 ≤ classIn (firstIn s l).1 m := by
    intro l
    induction l with
    | nil => intro m _ h; exact absurd h (Nat.lt_irrefl 0)
    | cons x l ih =>
      intro m hm h
      unfold firstIn at h ⊢
      split
      · exact hm x List.mem_cons_self
      · split
        · exact hm x List.mem_cons_self
        · rename_i h1 h2
          rw [if_neg h1, if_neg h2] at h
          exact ih m (fun y hy => hm y (List.mem_cons_of_mem _ hy)) h
  exact key glyphs glyphs (by decide +kernel) h
theorem sign_none {s : ByteArray} (h : (gFirst s).2 = 0) : gClass (gFirst s).1 = 0 := by
  by_cases hc : gClass (gFirst s).1 = 0
  · exact hc
  · have := gFirst_pos hc
    omega
theorem steps_first {s : ByteArray} (h : 0 < s.size) : pickTok (stepsOf s) = dFirst s := by
  have hr := gClass_range (gFirst s).1
  unfold dFirst stepsOf
  by_cases h1 : 0 < dBlanks s
  · rw [if_pos h1]
    unfold pickTok tBlank
    rw [if_pos h1, if_neg (by simp)]
  rw [if_neg h1]
  have e1 : (tBlank s).kind = 0 := by unfold tBlank; rw [if_neg h1]; rfl
  rw [pickTok, if_pos e1]
  by_cases h2 : gClass (gFirst s).1 = 6
  · rw [if_pos h2]
    unfold pickTok tRemark
    rw [if_pos h2, if_neg (by simp)]
  rw [if_neg h2]
  have e2 : (tRemark s).kind = 0 := by unfold tRemark; rw [if_neg h2]; rfl
  rw [pickTok, if_pos e2]
  by_cases h3 : byte0 s = 39
  · rw [if_pos h3]
    unfold pickTok tText
    rw [if_pos h3]
    by_cases hq : dQuoted s = 0
    · rw [if_pos hq, if_neg (by simp)]
    · rw [if_neg hq, if_neg (by simp)]
  rw [if_neg h3]
  have e3 : (tText s).kind = 0 := by unfold tText; rw [if_neg h3]; rfl
  rw [pickTok, if_pos e3]
  by_cases h4 : gClass (gFirst s).1 = 5
  · rw [if_pos h4]
    have hp := gFirst_pos (s := s) (by rw [h4]; decide)
    have en : tNumber s = dNumber s (gFirst s).2 := by
      unfold tNumber numMinus
      rw [if_pos h4, if_neg (fun h => by omega)]
    rw [pickTok, en, if_neg (number_kind _ _)]
  rw [if_neg h4]
  have hm : numMinus s = 0 := by unfold numMinus; rw [if_neg h4]
  have hdz := digits_zero h
  by_cases h5 : 48 ≤ byte0 s ∧ byte0 s ≤ 57
  · rw [if_pos h5]
    have en : tNumber s = dNumber s 0 := by
      unfold tNumber
      rw [hm, if_neg (fun h => (hdz.1 h.2) h5)]
    rw [pickTok, en, if_neg (number_kind _ _)]
  rw [if_neg h5]
  have e4 : (tNumber s).kind = 0 := by
    unfold tNumber
    rw [hm, if_pos ⟨rfl, hdz.2 h5⟩]
  rw [pickTok, if_pos e4]
  by_cases h6 : dWord s = 0
  · rw [if_neg (by omega), if_neg (by omega)]
    have e5 : (tName s).kind = 0 := by unfold tName; rw [if_pos h6]; rfl
    rw [pickTok, if_pos e5]
    by_cases h7 : 0 < (gFirst s).2
    · rw [if_pos h7]
      have hc := sign_class h7
      have es : tSign s = ⟨dKind (gClass (gFirst s).1), s.extract 0 (gFirst s).2, (gFirst s).1⟩ := by
        unfold tSign signOf dKind
        rcases (show gClass (gFirst s).1 = 1 ∨ gClass (gFirst s).1 = 2 ∨ gClass (gFirst s).1 = 3 ∨ gClass (gFirst s).1 = 4 by omega) with e | e | e | e
        all_goals (rw [e]; rfl)
      have hk : dKind (gClass (gFirst s).1) ≠ 0 := by
        unfold dKind
        split
        · decide
        · split
          · decide
          · split <;> decide
      rw [pickTok, es, if_neg hk]
    · rw [if_neg h7]
      have es : tSign s = noTok := by
        unfold tSign
        rw [sign_none (by omega)]
        rfl
      rw [pickTok, es, if_pos (show noTok.kind = 0 from rfl)]
      unfold pickTok tOther
      rw [if_neg (by simp)]
  · by_cases h20 : 20 < dWord s
    · rw [if_pos h20]
      unfold pickTok tName
      rw [if_neg h6, if_pos h20, if_neg (by simp)]
    · rw [if_neg h20, if_pos (by omega)]
      unfold pickTok tName
      rw [if_neg h6, if_neg h20, if_neg (by simp)]
theorem steps_none (s : ByteArray) : ∀ x ∈ stepsOf s, x.kind = 0 → x = noTok := by
  intro x hx
  simp only [stepsOf, List.mem_cons, List.not_mem_nil, or_false] at hx
  rcases hx with rfl | rfl | rfl | rfl | rfl | rfl | rfl
  · unfold tBlank; split
    · intro h; simp at h
    · exact fun _ => rfl
  · unfold tRemark; split
    · intro h; simp at h
    · exact fun _ => rfl
  · unfold tText; split
    · split
      · intro h; simp at h
      · intro h; simp at h
    · exact fun _ => rfl
  · unfold tNumber; split
    · exact fun _ => rfl
    · intro h; exact absurd h (number_kind _ _)
  · unfold tName; split
    · exact fun _ => rfl
    · split
      · intro h; simp at h
      · intro h; simp at h
  · unfold tSign
    intro h
    cases hs : signOf (gClass (gFirst s).1) with
    | none => rfl
    | some k =>
      rw [hs] at h
      have h' : k = 0 := h
      unfold signOf at hs
      split at hs
      · cases hs; simp at h'
      · split at hs
        · cases hs; simp at h'
        · split at hs
          · cases hs; simp at h'
          · split at hs
            · cases hs; simp at h'
            · cases hs
  · intro h
    simp [tOther] at h
end Go.Proofs.YteojnejomgomjaaDoor
