/-
  Is a text a name? By the program.
-/
import Derived.Test.YtjlehlkkgkplmaaDoorProg
import Derived.Test.YtjlehlkkgkplmaaDoorReg
import Derived.WalkKit
import Derived.WalkSpells
import Derived.WalkLawsBesides
import Derived.Lib.Hide
import Derived.Lib.MinMax
import Derived.Deep.QuietTactic
import Derived.BigQuiet
import Derived.OwnWalk
import Derived.Deep.AppendLies
import Derived.KernelRfl
import Derived.Laws.RangeString
import Derived.Test.YtjlehlkkgkplmaaDoorFrV
set_option linter.unusedSimpArgs false
set_option linter.unusedVariables false
namespace Go.Proofs.YtjlehlkkgkplmaaDoor
open Go Go.RowKit

def isNameS (s : ByteArray) : Bool := decide (0 < s.size) && s.data.toList.all isNameB
theorem run_next_any {P : Program} (w : World) (s : ByteArray) (pos : Nat) (ty : TypeId) (h : pos < s.size) :
    (Instr.next (.pointer (some ⟨w.heap.size, 0, none⟩)) true ty).run P (w.iter s pos) =
      .ok (.tuple #[.bool true, .int .i64 pos, .int .i32 (Utf8.decode s pos).1]) (w.iter s (pos + (Utf8.decode s pos).2)) := by
  simp only [Instr.next, getObj, setObj, Sem.run_bind, Sem.run, World.iter_heap, Result.andThen, h, if_true, World.iter_set]
  simp [goInt, Sem.run, World.iter_heap, World.iter_set]
/-- A byte that is no ASCII begins no ASCII rune. -/
theorem decode_high (s : ByteArray) (pos : Nat) (h : pos < s.size) (ha : ¬ (s[pos]'h).toNat < 128) : 128 ≤ (Utf8.decode s pos).1 := by
  have e : s.get! (pos + 0) = s[pos]'h := by
    show s.get! pos = _
    simp [ByteArray.get!, getElem!_pos, h]
    rfl
  unfold Utf8.decode
  simp only [e]
  rw [if_neg ha]
  have r : 128 ≤ Utf8.runeError := by decide
  repeat' split
  all_goals first | exact r | (simp only; omega) | (rename_i hh; simp only [Bool.and_eq_true, decide_eq_true_eq] at hh; simp only; omega) | (simp_all; omega)
/-- How a rune that is in no name compares. -/
theorem not_name (R : Int) (h0 : 0 ≤ R) (h : ¬ (97 ≤ R ∧ R ≤ 122)) (h1 : ¬ (65 ≤ R ∧ R ≤ 90)) (h2 : R ≠ 45) : (R < 65 ∧ R < 97 ∧ R ≠ 45) ∨ (¬ R < 65 ∧ 90 < R ∧ R < 97 ∧ R ≠ 45) ∨ (¬ R < 97 ∧ 122 < R ∧ ¬ R < 65 ∧ 90 < R ∧ R ≠ 45) := by omega

set_option maxRecDepth 100000 in
set_option maxHeartbeats 8000000 in
theorem isName_any (s : ByteArray) (w : World) (hs : s.size ≤ 1000000) :
    Calls Tryd.prog 53 #[.string s] w fun e w' => e = .returned (.bool (isNameS s)) ∧ Below w.heap.size w w' := by
  have HB := Lib.hid (fun pos => (show Below w.heap.size w (w.iter s pos) from (Below.refl _ w).alloc (Nat.le_refl _) _))
  go_enter Tryd.func53, Tryd.ntmps53
  go_wp2_with fail
  go_loopw [] (fun wr => ∃ k : Nat, k ≤ s.size ∧ wr = w.iter s k ∧ Hid ((s.data.toList.take k).all isNameB = true)) (fun wr => match wr.heap[w.heap.size]? with | some (.stringIter _ pos) => s.size - pos | _ => 0)
  case atStart => exact ⟨0, Nat.zero_le _, rfl, Lib.hid rfl⟩
  case round =>
    obtain ⟨k, hk, rfl, HA⟩ := hrel
    by_cases hlt : k < s.size
    · have hget : s.data.toList[k]? = some s[k] := by rw [List.getElem?_eq_getElem (show k < s.data.toList.length from hlt)]; rfl
      have hst := all_step isNameB s.data.toList k s[k] hget
      rw [HA.out, Bool.true_and] at hst
      have hno : isNameB s[k] = false → isNameS s = false := fun h => by
        unfold isNameS
        rw [Bool.and_eq_false_iff]
        refine .inr ?_
        rw [List.all_eq_false]
        exact ⟨s[k], List.mem_of_getElem? hget, by rw [h]; decide⟩
      by_cases hasc : s[k].toNat < 128
      · have hnx := fun ty => run_next_ascii (P := Tryd.prog) w s k ty hlt hasc
        cases hc : isNameB s[k] with
        | true =>
          have HA2 : Hid ((s.data.toList.take (k + 1)).all isNameB = true) := Lib.hid (by rw [hst, hc])
          have hways : (97 ≤ s[k].toNat ∧ s[k].toNat ≤ 122) ∨ (65 ≤ s[k].toNat ∧ s[k].toNat ≤ 90) ∨ s[k].toNat = 45 := by
            unfold isNameB at hc
            simp only [Bool.or_eq_true, Bool.and_eq_true, decide_eq_true_eq, beq_iff_eq] at hc
            rcases hc with h | h | h
            · exact .inl h
            · exact .inr (.inl h)
            · exact .inr (.inr (by rw [h]; rfl))
          generalize s[k].toNat = R at *
          clear hst hc hno hget
          rcases hways with ⟨a, b⟩ | ⟨a, b⟩ | a
          · have r1 : ¬ (R : Int) < 97 := by omega
            have r2 : ¬ 122 < (R : Int) := by omega
            clear a b
            go_wp2_with fail
            go_roundw
            case rel => exact ⟨k + 1, by omega, rfl, HA2⟩
            case measure => simp [World.iter_heap]; omega
          · have r1 : (R : Int) < 97 := by omega
            have r2 : ¬ (R : Int) < 65 := by omega
            have r3 : ¬ 90 < (R : Int) := by omega
            clear a b
            go_wp2_with fail
            go_roundw
            case rel => exact ⟨k + 1, by omega, rfl, HA2⟩
            case measure => simp [World.iter_heap]; omega
          · subst a
            go_wp2_with fail
            go_roundw
            case rel => exact ⟨k + 1, by omega, rfl, HA2⟩
            case measure => simp [World.iter_heap]; omega
        | false =>
          have HE := Lib.hid (hno hc)
          have hw : ((s[k].toNat : Int) < 65 ∧ (s[k].toNat : Int) < 97 ∧ (s[k].toNat : Int) ≠ 45) ∨ (¬ (s[k].toNat : Int) < 65 ∧ 90 < (s[k].toNat : Int) ∧ (s[k].toNat : Int) < 97 ∧ (s[k].toNat : Int) ≠ 45) ∨ (¬ (s[k].toNat : Int) < 97 ∧ 122 < (s[k].toNat : Int) ∧ ¬ (s[k].toNat : Int) < 65 ∧ 90 < (s[k].toNat : Int) ∧ (s[k].toNat : Int) ≠ 45) := by
            unfold isNameB at hc
            simp only [Bool.or_eq_false_iff, Bool.and_eq_false_iff, decide_eq_false_iff_not, beq_eq_false_iff_ne] at hc
            obtain ⟨h1, h2, h3⟩ := hc
            refine not_name _ (by omega) (by omega) (by omega) (fun e => h3 (UInt8.toNat_inj.1 (by simpa using (show s[k].toNat = 45 by omega))))
          generalize s[k].toNat = R at *
          have q : (R : Int) ≠ 45 → ((R : Int) == 45) = false := fun h => beq_eq_false_iff_ne.2 h
          clear hst hc hno hget
          rcases hw with ⟨a, b, c⟩ | ⟨a, b, c, d⟩ | ⟨a, b, c, d, e⟩
          all_goals
            go_wp2_with fail
            go_ret
            exact ⟨by rw [HE.out]; rfl, HB.out _⟩
      · have hnx := fun ty => run_next_any (P := Tryd.prog) w s k ty hlt
        have hhi := decode_high s k hlt hasc
        have hc : isNameB s[k] = false := by
          unfold isNameB
          simp only [Bool.or_eq_false_iff, Bool.and_eq_false_iff, decide_eq_false_iff_not, beq_eq_false_iff_ne]
          refine ⟨by omega, by omega, fun e => ?_⟩
          rw [e] at hasc
          exact hasc (by decide)
        have HE := Lib.hid (hno hc)
        obtain ⟨R, hR⟩ : ∃ R, (Utf8.decode s k).1 = R := ⟨_, rfl⟩
        rw [hR] at hhi hnx
        have a : ¬ (R : Int) < 97 := by omega
        have b : 122 < (R : Int) := by omega
        have c : ¬ (R : Int) < 65 := by omega
        have d : 90 < (R : Int) := by omega
        have e : (R : Int) ≠ 45 := by omega
        clear hst hc hno hget hR hhi hasc
        go_wp2_with fail
        go_ret
        exact ⟨by rw [HE.out]; rfl, HB.out _⟩
    · obtain rfl : k = s.size := by omega
      have hnx := fun ty => run_next_end (P := Tryd.prog) w s s.size ty (by omega)
      have hall := HA.out
      rw [List.take_of_length_le (show s.data.toList.length ≤ s.size from Nat.le_refl _)] at hall
      by_cases h0 : s.size = 0
      · have hE : isNameS s = false := by unfold isNameS; rw [h0]; rfl
        have HE := Lib.hid hE
        have q : s.toList.isEmpty = true := by
          rw [ByteArray.toList_eq]
          have : s.data.toList.length = 0 := h0
          rw [List.length_eq_zero_iff.1 this]
          rfl
        clear hE hall HA h0
        go_wp2_with fail
        go_ret
        exact ⟨by rw [HE.out]; rfl, HB.out _⟩
      · have hE : isNameS s = true := by
          unfold isNameS
          rw [hall, Bool.and_true]
          simpa using (show 0 < s.size by omega)
        have HE := Lib.hid hE
        have q : s.toList.isEmpty = false := by
          rw [ByteArray.toList_eq]
          have : s.data.toList.length = s.size := rfl
          cases hl : s.data.toList with
          | nil => rw [hl] at this; simp at this; omega
          | cons a l => rfl
        clear hE hall HA h0
        go_wp2_with fail
        go_ret
        exact ⟨by rw [HE.out]; rfl, HB.out _⟩
end Go.Proofs.YtjlehlkkgkplmaaDoor
