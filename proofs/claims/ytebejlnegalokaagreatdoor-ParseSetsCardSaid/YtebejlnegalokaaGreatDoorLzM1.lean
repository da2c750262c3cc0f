/-
  XLxP, turned: what this seat needs of it.
-/
import Derived.Test.YtebejlnegalokaaGreatDoorProg
import Derived.Test.YtebejlnegalokaaGreatDoorReg
import Derived.WalkKit
import Derived.WalkSpells
import Derived.WalkLawsBesides
import Derived.Lib.Hide
import Derived.Lib.MinMax
import Derived.Deep.QuietTactic
import Derived.BigQuiet
import Derived.OwnWalk
import Derived.Deep.AppendLies
import Derived.KernelRfl
import Derived.Test.YtebejlnegalokaaGreatDoorReg
import Derived.WalkKit
import Derived.Lib.TrimU
import Derived.Lib.QuoteLoop
import Derived.Below
import Derived.Laws.OwnMore
import Derived.Deep.Draws
import Derived.Deep.AppendLies
import Derived.Shelf.Strings.BuilderF
import Derived.Lib.FrozenHead2
import Derived.Deep.OwnRows
import Derived.Maps.AppendAt
import Derived.Deep.RegionWith
import Derived.Test.YtebejlnegalokaaGreatDoorMap
import Derived.Test.YtebejlnegalokaaGreatDoorRegZ
import Derived.Laws.RangeAny
import Derived.Shelf.Abstract
import Derived.Maps.OwnSet
import Derived.OneCell
import Derived.Laws.Rows
import Derived.Tactics
import Derived.Tactics2
import Derived.Defers
import Derived.Laws.Pointers
import Derived.Laws.LoneSync
import Derived.RegionTactic
import Derived.RegionCalls
import Derived.ChangeAlike
import Derived.RangeFuncNested
import Derived.RangeFuncBound
import Derived.RangeFuncCalls
import Derived.RangeFuncLeaves
import Derived.RangeFuncBox
import Derived.OwnWalkIn
import Derived.TacticsInMore
import Derived.LoopNIn
import Derived.LoopIn
import Derived.Deep.RegionLaw
import Derived.Deep.Cut
import Derived.Test.YtebejlnegalokaaGreatDoorRegIn
import Derived.Test.YtebejlnegalokaaGreatDoorJoint2
import Derived.Test.YtebejlnegalokaaGreatDoorRegG
import Derived.Test.YtebejlnegalokaaGreatDoorMapI
import Derived.Lib.TrimByte
set_option linter.unusedSimpArgs false
set_option linter.unusedVariables false
namespace Go.Proofs.YtebejlnegalokaaGreatDoor.Lz
open Go.RowKit
structure Tok where
  kind : Int
  text : ByteArray
  glyph : ByteArray
deriving DecidableEq
theorem bytes_ext (s : ByteArray) (a b : Nat) : (s.extract a b).data.toList = (s.data.toList.drop a).take (b - a) := by
  rw [ByteArray.data_extract]
  simp [List.extract_eq_take_drop]
theorem bytes_eq {a b : ByteArray} (h : a.data.toList = b.data.toList) : a = b := by
  obtain ⟨⟨x⟩⟩ := a; obtain ⟨⟨y⟩⟩ := b; simp at h; rw [h]
theorem bytes_len (s : ByteArray) : s.data.toList.length = s.size := rfl
theorem empty_is {u : ByteArray} (h : u.size = 0) : u.toList.isEmpty = true := by
  rw [ByteArray.toList_eq]
  have : u.data.toList.length = 0 := by rw [bytes_len]; exact h
  rw [List.length_eq_zero_iff.1 this]
  rfl
theorem empty_not {u : ByteArray} (h : 0 < u.size) : u.toList.isEmpty = false := by
  rw [ByteArray.toList_eq]
  have : u.data.toList.length = u.size := bytes_len u
  cases hl : u.data.toList with
  | nil => rw [hl] at this; simp at this; omega
  | cons a l => rfl
structure Gly where
  glyph : ByteArray
  letter : ByteArray
  cls : Int
def gly (g : Array UInt8) (l : Array UInt8) (c : Int) : Gly := ⟨⟨g⟩, ⟨l⟩, c⟩
def glyphs : List Gly := [
  gly #[43] #[] 1,
  gly #[45] #[] 1,
  gly #[195, 151] #[120] 1,
  gly #[195, 183] #[100] 1,
  gly #[226, 140, 136] #[117] 1,
  gly #[226, 140, 138] #[110] 1,
  gly #[124] #[] 1,
  gly #[61] #[] 1,
  gly #[226, 137, 160] #[113] 1,
  gly #[60] #[] 1,
  gly #[62] #[] 1,
  gly #[226, 137, 164] #[108] 1,
  gly #[226, 137, 165] #[103] 1,
  gly #[226, 136, 167] #[97] 1,
  gly #[226, 136, 168] #[111] 1,
  gly #[126] #[] 1,
  gly #[226, 141, 180] #[114] 1,
  gly #[226, 141, 179] #[105] 1,
  gly #[44] #[] 1,
  gly #[226, 140, 189] #[116] 1,
  gly #[226, 134, 145] #[107] 1,
  gly #[226, 134, 147] #[106] 1,
  gly #[226, 137, 162] #[109] 1,
  gly #[47] #[] 2,
  gly #[92] #[] 2,
  gly #[194, 168] #[101] 2,
  gly #[226, 141, 168] #[99] 2,
  gly #[226, 134, 144] #[115] 3,
  gly #[226, 139, 132] #[122] 3,
  gly #[58] #[] 3,
  gly #[123] #[] 3,
  gly #[125] #[] 3,
  gly #[40] #[] 3,
  gly #[41] #[] 3,
  gly #[226, 141, 186] #[112] 4,
  gly #[226, 141, 181] #[119] 4,
  gly #[194, 175] #[104] 5,
  gly #[226, 141, 157] #[98] 6]
/-- Does a text begin with another one? -/
def begins (s t : ByteArray) : Bool := decide (t.size ≤ s.size) && decide (s.extract 0 t.size = t)
def tick (l : ByteArray) : ByteArray := ⟨#[96]⟩ ++ l
def firstIn (s : ByteArray) : List Gly → ByteArray × Nat
  | [] => (ByteArray.empty, 0)
  | x :: l => if begins s x.glyph = true then (x.glyph, x.glyph.size) else if x.letter ≠ ByteArray.empty ∧ begins s (tick x.letter) = true then (x.glyph, 2) else firstIn s l
def gFirst (s : ByteArray) : ByteArray × Nat := firstIn s glyphs
def classIn (g : ByteArray) : List Gly → Int
  | [] => 0
  | x :: l => if x.glyph = g then x.cls else classIn g l
def gClass (g : ByteArray) : Int := classIn g glyphs
def isBlank (c : UInt8) : Bool := c == 32 || c == 9
def isDig (c : UInt8) : Bool := decide (48 ≤ c.toNat) && decide (c.toNat ≤ 57)
def isLet (c : UInt8) : Bool := (decide (97 ≤ c.toNat) && decide (c.toNat ≤ 122)) || ((decide (65 ≤ c.toNat) && decide (c.toNat ≤ 90)) || c == 95)
def many (p : UInt8 → Bool) (l : List UInt8) : Nat := (l.takeWhile p).length
def dBlanks (s : ByteArray) : Nat := many isBlank s.data.toList
def dDigits (s : ByteArray) : Nat := many isDig s.data.toList
def wordL : List UInt8 → Nat
  | [] => 0
  | c :: l => if isLet c = true then many (fun c => isLet c || isDig c) l + 1 else 0
def dWord (s : ByteArray) : Nat := wordL s.data.toList
/-- How many bytes a text in quotes has, from place i on. -/
def quoGo : List UInt8 → Nat → Nat
  | [], _ => 0
  | c :: l, i => if c ≠ 39 then quoGo l (i + 1) else match l with | [] => i + 1 | d :: r => if d ≠ 39 then i + 1 else quoGo r (i + 2)
def dQuoted (s : ByteArray) : Nat := quoGo (s.data.toList.drop 1) 1
def noText : ByteArray := ByteArray.empty
/-- Without the noughts ahead. -/
def noughts : List UInt8 → List UInt8
  | 48 :: c :: l => noughts (c :: l)
  | l => l
def dNumber (s : ByteArray) (n : Nat) : Tok :=
  let k := dDigits (s.extract n s.size)
  if 18 < k ∨ k = 0 then ⟨10, s.extract 0 (n + k), noText⟩ else
  let d : ByteArray := ⟨(noughts (s.extract n (n + k)).data.toList).toArray⟩
  ⟨3, s.extract 0 (n + k), if 0 < n ∧ d ≠ ⟨#[48]⟩ then ⟨#[194, 175]⟩ ++ d else d⟩
def dKind (c : Int) : Int := if c = 1 then 6 else if c = 2 then 7 else if c = 3 then 8 else 9
/-- The first byte. -/
def byte0 (s : ByteArray) : Nat := (s.data.toList.headD 0).toNat
/-- How many bytes the rune has that a text begins with. -/
def dStep (s : ByteArray) : Nat := (Utf8.decode s 0).2
/-- The first token of a text that is not empty. -/
def dFirst (s : ByteArray) : Tok :=
  if 0 < dBlanks s then ⟨1, s.extract 0 (dBlanks s), noText⟩ else
  if gClass (gFirst s).1 = 6 then ⟨2, s, (gFirst s).1⟩ else
  if byte0 s = 39 then (if dQuoted s = 0 then ⟨10, s, noText⟩ else ⟨4, s.extract 0 (dQuoted s), noText⟩) else
  if gClass (gFirst s).1 = 5 then dNumber s (gFirst s).2 else
  if 48 ≤ byte0 s ∧ byte0 s ≤ 57 then dNumber s 0 else
  if 20 < dWord s then ⟨10, s.extract 0 (dWord s), noText⟩ else
  if 0 < dWord s then ⟨5, s.extract 0 (dWord s), noText⟩ else
  if 0 < (gFirst s).2 then ⟨dKind (gClass (gFirst s).1), s.extract 0 (gFirst s).2, (gFirst s).1⟩ else
  ⟨10, s.extract 0 (dStep s), noText⟩
def dLineGo : Nat → ByteArray → List Tok
  | 0, _ => []
  | k + 1, s => if s = noText then [] else dFirst s :: dLineGo k (s.extract (dFirst s).text.size s.size)
def dLine (s : ByteArray) : List Tok := dLineGo s.size s
end Go.Proofs.YtebejlnegalokaaGreatDoor.Lz
/-
  XLxQ, turned: what this seat needs of it.
-/
namespace Go.Proofs.YtebejlnegalokaaGreatDoor.Lz
open Go.RowKit
theorem ext_list (s : ByteArray) (n : Nat) : (s.extract 0 n).data.toList = s.data.toList.take n := by rw [bytes_ext, List.drop_zero, Nat.sub_zero]
theorem ext_all (s : ByteArray) {n : Nat} (h : s.size ≤ n) : s.extract 0 n = s := bytes_eq (by rw [ext_list, List.take_of_length_le (by rw [bytes_len]; exact h)])
theorem ext_size (s : ByteArray) (n : Nat) : (s.extract 0 n).size = min n s.size := by rw [← bytes_len, ext_list, List.length_take, bytes_len]
theorem many_le (p : UInt8 → Bool) (l : List UInt8) : many p l ≤ l.length := by
  unfold many
  exact (List.takeWhile_sublist p).length_le
theorem wordL_le (l : List UInt8) : wordL l ≤ l.length := by
  cases l with
  | nil => simp [wordL]
  | cons c l =>
    have := many_le (fun c => isLet c || isDig c) l
    show (if isLet c = true then many (fun c => isLet c || isDig c) l + 1 else 0) ≤ l.length + 1
    by_cases hc : isLet c = true
    · rw [if_pos hc]; omega
    · rw [if_neg hc]; omega
theorem quo_nil (i : Nat) : quoGo [] i = 0 := by unfold quoGo; rfl
theorem quo_other {c : UInt8} (h : c ≠ 39) (l : List UInt8) (i : Nat) : quoGo (c :: l) i = quoGo l (i + 1) := by rw [quoGo.eq_def]; simp only; rw [if_pos h]
theorem quo_end (i : Nat) : quoGo [39] i = i + 1 := by rw [quoGo.eq_def]; simp
theorem quo_stop {d : UInt8} (h : d ≠ 39) (r : List UInt8) (i : Nat) : quoGo (39 :: d :: r) i = i + 1 := by rw [quoGo.eq_def]; simp [h]
theorem quo_two (r : List UInt8) (i : Nat) : quoGo (39 :: 39 :: r) i = quoGo r (i + 2) := by rw [quoGo.eq_def]; simp
theorem quo_take : ∀ (m : Nat) (l : List UInt8) (i q : Nat), l.length ≤ m → quoGo l i = q → q ≠ 0 → i < q ∧ q ≤ i + l.length ∧ quoGo (l.take (q - i)) i = q
  | _, [], i, q, _, h, h0 => by rw [quo_nil] at h; omega
  | 0, c :: l, i, q, hm, _, _ => by simp at hm
  | m + 1, c :: l, i, q, hm, h, h0 => by
    have hm' : l.length ≤ m := by simpa using hm
    by_cases hc : c ≠ 39
    · have h' : quoGo l (i + 1) = q := by rw [quo_other hc] at h; exact h
      obtain ⟨h1, h2, h3⟩ := quo_take m l (i + 1) q hm' h' h0
      refine ⟨by omega, by simp; omega, ?_⟩
      obtain ⟨j, hj⟩ : ∃ j, q - i = j + 1 := ⟨q - i - 1, by omega⟩
      rw [hj, List.take_succ_cons]
      rw [quo_other hc, show j = q - (i + 1) by omega]
      exact h3
    · obtain rfl : c = 39 := by simpa using hc
      cases l with
      | nil =>
        rw [quo_end] at h
        subst h
        refine ⟨by omega, by simp, ?_⟩
        rw [show i + 1 - i = 1 by omega]
        exact quo_end i
      | cons d r =>
        by_cases hd : d ≠ 39
        · rw [quo_stop hd] at h
          subst h
          refine ⟨by omega, by simp, ?_⟩
          rw [show i + 1 - i = 1 by omega]
          exact quo_end i
        · obtain rfl : d = 39 := by simpa using hd
          have h' : quoGo r (i + 2) = q := by rw [quo_two] at h; exact h
          have hr : r.length ≤ m := by simp at hm'; omega
          obtain ⟨h1, h2, h3⟩ := quo_take m r (i + 2) q hr h' h0
          refine ⟨by omega, by simp; omega, ?_⟩
          obtain ⟨j, hj⟩ : ∃ j, q - i = j + 2 := ⟨q - i - 2, by omega⟩
          rw [hj]
          show quoGo (39 :: 39 :: r.take j) i = q
          rw [quo_two, show j = q - (i + 2) by omega]
          exact h3
theorem begins_size {s g : ByteArray} (h : begins s g = true) : g.size ≤ s.size := by
  unfold begins at h
  rw [Bool.and_eq_true, decide_eq_true_eq] at h
  exact h.1
def fineG (x : Gly) : Bool := (decide (x.letter = ByteArray.empty) || decide (x.letter.size = 1)) && decide (0 < x.glyph.size)
theorem glyphs_fine : ∀ x ∈ glyphs, fineG x = true := by decide +kernel
theorem tick_size {l : ByteArray} (h : l.size = 1) : (tick l).size = 2 := by unfold tick; rw [ByteArray.size_append, h]; rfl
theorem fine_letter {x : Gly} (h : fineG x = true) (h2 : x.letter ≠ ByteArray.empty) : (tick x.letter).size = 2 := by
  unfold fineG at h
  simp only [Bool.and_eq_true, Bool.or_eq_true, decide_eq_true_eq] at h
  rcases h.1 with h1 | h1
  · exact absurd h1 h2
  · exact tick_size h1
theorem fine_pos {x : Gly} (h : fineG x = true) : 0 < x.glyph.size := by
  unfold fineG at h
  simp only [Bool.and_eq_true, decide_eq_true_eq] at h
  exact h.2
theorem firstIn_size {s : ByteArray} : ∀ (l : List Gly), (∀ x ∈ l, fineG x = true) → (firstIn s l).2 ≤ s.size ∧ ((firstIn s l).1 ≠ ByteArray.empty → 0 < (firstIn s l).2)
  | [], _ => ⟨Nat.zero_le _, fun h => absurd rfl h⟩
  | x :: l, hf => by
    have hx := hf x List.mem_cons_self
    unfold firstIn
    by_cases h1 : begins s x.glyph = true
    · rw [if_pos h1]
      exact ⟨begins_size h1, fun _ => fine_pos hx⟩
    · rw [if_neg h1]
      by_cases h2 : x.letter ≠ ByteArray.empty ∧ begins s (tick x.letter) = true
      · rw [if_pos h2]
        have := begins_size h2.2
        rw [fine_letter hx h2.1] at this
        exact ⟨this, fun _ => by show 0 < 2; omega⟩
      · rw [if_neg h2]
        exact firstIn_size l (fun y hy => hf y (List.mem_cons_of_mem _ hy))
theorem gFirst_size (s : ByteArray) : (gFirst s).2 ≤ s.size := (firstIn_size glyphs glyphs_fine).1
theorem class_none : gClass ByteArray.empty = 0 := by decide +kernel
theorem gFirst_pos {s : ByteArray} (h : gClass (gFirst s).1 ≠ 0) : 0 < (gFirst s).2 := (firstIn_size glyphs glyphs_fine).2 (fun e => h (by
  have e2 : (gFirst s).1 = ByteArray.empty := e
  rw [e2]; exact class_none))
theorem dQuoted_take {s : ByteArray} (h : dQuoted s ≠ 0) : dQuoted (s.extract 0 (dQuoted s)) = dQuoted s ∧ 1 < dQuoted s ∧ (0 < s.size → dQuoted s ≤ s.size) := by
  obtain ⟨h1, h2, h3⟩ := quo_take _ _ 1 _ (Nat.le_refl _) (show quoGo (s.data.toList.drop 1) 1 = dQuoted s from rfl) h
  refine ⟨?_, h1, fun hs => ?_⟩
  · unfold dQuoted
    rw [ext_list, List.drop_take]
    exact h3
  · rw [List.length_drop, bytes_len] at h2
    omega
theorem dStep_range {s : ByteArray} (hs : 0 < s.size) : 1 ≤ dStep s ∧ dStep s ≤ s.size := ⟨Lib.width_pos s 0, Lib.width_le s hs⟩
theorem dNumber_text {s : ByteArray} {n : Nat} : (dNumber s n).text = s.extract 0 (n + dDigits (s.extract n s.size)) := by
  unfold dNumber
  simp only
  split <;> rfl
theorem dDigits_le (s : ByteArray) {n : Nat} (h : n ≤ s.size) : n + dDigits (s.extract n s.size) ≤ s.size := by
  unfold dDigits
  have := many_le isDig (s.extract n s.size).data.toList
  rw [bytes_len, ByteArray.size_extract] at this
  omega
theorem dDigits_pos {s : ByteArray} (h : 48 ≤ byte0 s ∧ byte0 s ≤ 57) : 0 < dDigits (s.extract 0 s.size) := by
  rw [ext_all s (Nat.le_refl _)]
  unfold dDigits many
  unfold byte0 at h
  cases hl : s.data.toList with
  | nil => rw [hl] at h; simp at h
  | cons c l =>
    rw [hl] at h
    simp only [List.headD_cons] at h
    rw [List.takeWhile_cons, if_pos (by unfold isDig; simp [h])]
    simp
theorem first_begins {s : ByteArray} (hs : 0 < s.size) : ∃ n, 1 ≤ n ∧ n ≤ s.size ∧ (dFirst s).text = s.extract 0 n ∧ 1 ≤ (dFirst s).kind ∧ (dFirst s).kind ≤ 10 := by
  unfold dFirst
  split
  · rename_i h
    exact ⟨_, h, many_le _ _, rfl, by simp, by simp⟩
  split
  · exact ⟨_, hs, Nat.le_refl _, (ext_all s (Nat.le_refl _)).symm, by simp, by simp⟩
  split
  · split
    · exact ⟨_, hs, Nat.le_refl _, (ext_all s (Nat.le_refl _)).symm, by simp, by simp⟩
    · rename_i h
      obtain ⟨_, q2, q3⟩ := dQuoted_take h
      exact ⟨_, by omega, q3 hs, rfl, by simp, by simp⟩
  have hk : ∀ n, (dNumber s n).kind = 10 ∨ (dNumber s n).kind = 3 := fun n => by
    unfold dNumber
    simp only
    split
    · exact .inl rfl
    · exact .inr rfl
  split
  · rename_i h
    have hp := gFirst_pos (s := s) (by rw [h]; decide)
    have := dDigits_le s (gFirst_size s)
    exact ⟨_, by omega, this, dNumber_text, by rcases hk (gFirst s).2 with e | e <;> rw [e] <;> decide, by rcases hk (gFirst s).2 with e | e <;> rw [e] <;> decide⟩
  split
  · rename_i h
    have := dDigits_le s (Nat.zero_le s.size)
    have hp := dDigits_pos h
    exact ⟨_, by omega, this, dNumber_text, by rcases hk 0 with e | e <;> rw [e] <;> decide, by rcases hk 0 with e | e <;> rw [e] <;> decide⟩
  have hw : dWord s ≤ s.size := by have := wordL_le s.data.toList; rw [bytes_len] at this; exact this
  split
  · rename_i h
    exact ⟨_, by omega, hw, rfl, by simp, by simp⟩
  split
  · rename_i h
    exact ⟨_, by omega, hw, rfl, by simp, by simp⟩
  split
  · rename_i h
    refine ⟨_, h, gFirst_size s, rfl, ?_, ?_⟩
    · show 1 ≤ dKind _
      unfold dKind
      split; · decide
      split; · decide
      split <;> decide
    · show dKind _ ≤ 10
      unfold dKind
      split; · decide
      split; · decide
      split <;> decide
  · obtain ⟨h1, h2⟩ := dStep_range hs
    exact ⟨_, h1, h2, rfl, by simp, by simp⟩
theorem go_fuel : ∀ (k m : Nat) (s : ByteArray), s.size ≤ k → s.size ≤ m → dLineGo k s = dLineGo m s
  | 0, 0, s, _, _ => rfl
  | 0, m + 1, s, h, _ => by
    have : s = noText := bytes_eq (by
      have h1 : s.data.toList.length = 0 := by rw [bytes_len]; omega
      rw [List.length_eq_zero_iff.1 h1]; rfl)
    unfold dLineGo
    rw [if_pos this]
  | k + 1, 0, s, _, h => by
    have : s = noText := bytes_eq (by
      have h1 : s.data.toList.length = 0 := by rw [bytes_len]; omega
      rw [List.length_eq_zero_iff.1 h1]; rfl)
    unfold dLineGo
    rw [if_pos this]
  | k + 1, m + 1, s, h1, h2 => by
    unfold dLineGo
    split
    · rfl
    · rename_i h
      have hs : 0 < s.size := Nat.pos_of_ne_zero fun e => h (bytes_eq (by
        have h1 : s.data.toList.length = 0 := by rw [bytes_len]; omega
        rw [List.length_eq_zero_iff.1 h1]; rfl))
      obtain ⟨n, n1, n2, e, _⟩ := first_begins hs
      have hz : (s.extract (dFirst s).text.size s.size).size < s.size := by
        rw [ByteArray.size_extract, e, ext_size]
        omega
      rw [go_fuel k m _ (by omega) (by omega)]
def restOf (s : ByteArray) : ByteArray := s.extract (dFirst s).text.size s.size
theorem dLine_nil : dLine noText = [] := by decide +kernel
theorem rest_less {s : ByteArray} (hs : 0 < s.size) : (restOf s).size < s.size := by
  obtain ⟨n, n1, n2, e, _⟩ := first_begins hs
  unfold restOf
  rw [ByteArray.size_extract, e, ext_size]
  omega
theorem dLine_cons {s : ByteArray} (hs : 0 < s.size) : dLine s = dFirst s :: dLine (restOf s) := by
  have hne : s ≠ noText := fun e => by rw [e] at hs; exact absurd hs (by decide)
  have hr := rest_less hs
  unfold dLine
  obtain ⟨k, hk⟩ : ∃ k, s.size = k + 1 := ⟨s.size - 1, by omega⟩
  rw [hk]
  show (if s = noText then [] else dFirst s :: dLineGo k (restOf s)) = _
  rw [if_neg hne, go_fuel k (restOf s).size _ (by omega) (Nat.le_refl _)]
end Go.Proofs.YtebejlnegalokaaGreatDoor.Lz
/-
  XLxT, turned: what this seat needs of it.
-/
namespace Go.Proofs.YtebejlnegalokaaGreatDoor.Lz
open Go.RowKit
def Tok.cells (x : Tok) : List Value := [.int .i64 x.kind, .string x.text, .string x.glyph]
def Tok.val (x : Tok) : Value := .agg #[.int .i64 x.kind, .string x.text, .string x.glyph]
/-- The slice value '.slice A n c' holds, in w, the tokens l. -/
def HoldsT (w : World) (A : Option Addr) (l : List Tok) : Prop :=
  ∀ (k : Nat) (x : Tok), l[k]? = some x → ∃ b off, A = some ⟨b, off, none⟩ ∧ w.cell? ⟨b, off + k * 3, none⟩ = some (.int .i64 x.kind) ∧
    w.cell? ⟨b, off + k * 3 + 1, none⟩ = some (.string x.text) ∧ w.cell? ⟨b, off + k * 3 + 2, none⟩ = some (.string x.glyph)
theorem cell_lt {w : World} {p : Addr} {v : Value} (h : w.cell? p = some v) : p.block < w.heap.size := by
  rcases Nat.lt_or_ge p.block w.heap.size with h1 | h1
  · exact h1
  · simp [World.cell?, Array.getElem?_eq_none h1] at h
theorem HoldsT.below {w w' : World} {A : Option Addr} {l : List Tok} (h : HoldsT w A l) (hb : Below w.heap.size w w') : HoldsT w' A l := fun k x hx => by
  obtain ⟨b, off, e, h1, h2, h3⟩ := h k x hx
  have hl : b < w.heap.size := cell_lt h1
  exact ⟨b, off, e, (hb.cell (p := ⟨b, _, none⟩) hl).trans h1, (hb.cell (p := ⟨b, _, none⟩) hl).trans h2, (hb.cell (p := ⟨b, _, none⟩) hl).trans h3⟩
theorem HoldsT.drewN {w : World} {A : Option Addr} {l : List Tok} (h : HoldsT w A l) (n : Nat) : HoldsT (w.drewN n) A l := h
theorem HoldsT.nil (w : World) (A : Option Addr) : HoldsT w A [] := fun k x hx => by simp at hx
theorem below_drewN {B : Nat} {a w : World} (h : Below B a w) (n : Nat) : Below B a (w.drewN n) := ⟨h.os, h.tape, h.output, h.size, h.block⟩
def tokCells (l : List Tok) : List Value := l.flatMap Tok.cells
theorem tokCells_length (l : List Tok) : (tokCells l).length = l.length * 3 := by
  induction l with
  | nil => rfl
  | cons x l ih => simp [tokCells, Tok.cells] at ih ⊢; omega
theorem tokCells_append (l m : List Tok) : tokCells (l ++ m) = tokCells l ++ tokCells m := by simp [tokCells]
theorem tokCells_one (x : Tok) : tokCells [x] = x.cells := by simp [tokCells]
theorem ownBlock_ge {w : World} {base : Nat} {e : TypeId} {size : Nat} {v : Value} {n : Nat} {xs : List Value} (h : w.ownsRow base e size v n xs) : ∀ k, v.ownBlock = some k → base ≤ k := by
  intro k hk
  rcases h.2 with ⟨rfl, _⟩ | ⟨g, cap, cur, rfl, hg, _⟩
  · simp [Value.ownBlock] at hk
  · simp [Value.ownBlock] at hk
    omega
theorem ownBlock_lt {w : World} {base : Nat} {e : TypeId} {size : Nat} {v : Value} {n : Nat} {xs : List Value} (h : w.ownsRow base e size v n xs) : ∀ k, v.ownBlock = some k → k < w.heap.size := by
  intro k hk
  rcases h.2 with ⟨rfl, _⟩ | ⟨g, cap, cur, rfl, hg, hh, _⟩
  · simp [Value.ownBlock] at hk
  · simp [Value.ownBlock] at hk
    subst hk
    rcases Nat.lt_or_ge g w.heap.size with h1 | h1
    · exact h1
    · rw [Array.getElem?_eq_none h1] at hh; cases hh
theorem tokCells_get (l : List Tok) : ∀ (k : Nat) (x : Tok), l[k]? = some x → (tokCells l)[k * 3]? = some (.int .i64 x.kind) ∧ (tokCells l)[k * 3 + 1]? = some (.string x.text) ∧ (tokCells l)[k * 3 + 2]? = some (.string x.glyph) := by
  induction l with
  | nil => intro k x h; simp at h
  | cons y l ih =>
    intro k x h
    have e : tokCells (y :: l) = [.int .i64 y.kind, .string y.text, .string y.glyph] ++ tokCells l := by simp [tokCells, Tok.cells]
    cases k with
    | zero =>
      simp at h
      subst h
      rw [e]
      exact ⟨rfl, rfl, rfl⟩
    | succ k =>
      have h1 := ih k x (by simpa using h)
      rw [e]
      refine ⟨?_, ?_, ?_⟩
      · rw [List.getElem?_append_right (by simp; omega)]
        rw [← h1.1]; congr 1; simp; omega
      · rw [List.getElem?_append_right (by simp; omega)]
        rw [← h1.2.1]; congr 1; simp; omega
      · rw [List.getElem?_append_right (by simp; omega)]
        rw [← h1.2.2]; congr 1; simp; omega
theorem holdsT_of_own {w : World} {base : Nat} {e : TypeId} {v : Value} {n : Nat} {l : List Tok} (h : w.ownsRow base e 3 v n (tokCells l)) :
    ∃ A c, v = .slice A l.length c ∧ n = l.length ∧ HoldsT w A l ∧ l.length ≤ c := by
  have hn : n = l.length := by have h1 := h.1; rw [tokCells_length] at h1; omega
  subst hn
  rcases h.2 with ⟨rfl, h0⟩ | ⟨g, cap, cur, rfl, _, _, hcap, _⟩
  · have : l = [] := List.eq_nil_of_length_eq_zero h0
    subst this
    exact ⟨none, 0, rfl, rfl, HoldsT.nil _ _, Nat.le_refl _⟩
  · refine ⟨some ⟨g, 0, none⟩, cap, rfl, rfl, fun k x hx => ?_, hcap⟩
    have hc := h.cells (g := g) rfl
    obtain ⟨h1, h2, h3⟩ := tokCells_get l k x hx
    have c1 := hc _ _ h1
    have c2 := hc _ _ h2
    have c3 := hc _ _ h3
    have ea : ∀ j, (⟨g, 0, none⟩ : Addr).add j = ⟨g, 0 + j, none⟩ := fun j => by
      unfold Addr.add
      split
      · rename_i h; subst h; rfl
      · rfl
    rw [ea] at c1 c2 c3
    exact ⟨g, 0, rfl, c1, by rw [Nat.add_assoc]; exact c2, by rw [Nat.add_assoc]; exact c3⟩
end Go.Proofs.YtebejlnegalokaaGreatDoor.Lz
/-
  XLxF, turned: what this seat needs of it.
-/
namespace Go.Proofs.YtebejlnegalokaaGreatDoor.Lz
open Go.RowKit
theorem infoTok : (Tryz.prog.info? 37).map (fun i => (i.zero, i.size, i.bytes)) = some (some (.agg #[.int .i64 0, .string ByteArray.empty, .string ByteArray.empty]), 3, 40) := by kernel_rfl
end Go.Proofs.YtebejlnegalokaaGreatDoor.Lz
/-
  XLxG, turned: what this seat needs of it.
-/
namespace Go.Proofs.YtebejlnegalokaaGreatDoor.Lz
open Go.RowKit
def Gly.cells (x : Gly) : List Value := [.string x.glyph, .string x.letter, .int .i64 x.cls]
def Gly.val (x : Gly) : Value := .agg #[.string x.glyph, .string x.letter, .int .i64 x.cls]
def glyCells (l : List Gly) : List Value := l.flatMap Gly.cells
theorem glyCells_get (l : List Gly) : ∀ (k : Nat) (x : Gly), l[k]? = some x → (glyCells l)[k * 3]? = some (.string x.glyph) ∧ (glyCells l)[k * 3 + 1]? = some (.string x.letter) ∧ (glyCells l)[k * 3 + 2]? = some (.int .i64 x.cls) := by
  induction l with
  | nil => intro k x h; simp at h
  | cons y l ih =>
    intro k x h
    have e : glyCells (y :: l) = [.string y.glyph, .string y.letter, .int .i64 y.cls] ++ glyCells l := by simp [glyCells, Gly.cells]
    cases k with
    | zero =>
      simp at h
      subst h
      rw [e]
      exact ⟨rfl, rfl, rfl⟩
    | succ k =>
      have h1 := ih k x (by simpa using h)
      rw [e]
      refine ⟨?_, ?_, ?_⟩
      · rw [List.getElem?_append_right (by simp; omega)]
        rw [← h1.1]; congr 1; simp; omega
      · rw [List.getElem?_append_right (by simp; omega)]
        rw [← h1.2.1]; congr 1; simp; omega
      · rw [List.getElem?_append_right (by simp; omega)]
        rw [← h1.2.2]; congr 1; simp; omega
/-- The slice value '.slice A n c' holds, in w, the glyphs l. -/
def HoldsG (w : World) (A : Option Addr) (l : List Gly) : Prop :=
  ∀ (k : Nat) (x : Gly), l[k]? = some x → ∃ b off, A = some ⟨b, off, none⟩ ∧ w.cell? ⟨b, off + k * 3, none⟩ = some (.string x.glyph) ∧
    w.cell? ⟨b, off + k * 3 + 1, none⟩ = some (.string x.letter) ∧ w.cell? ⟨b, off + k * 3 + 2, none⟩ = some (.int .i64 x.cls)
theorem HoldsG.below {w w' : World} {A : Option Addr} {l : List Gly} (h : HoldsG w A l) (hb : Below w.heap.size w w') : HoldsG w' A l := fun k x hx => by
  obtain ⟨b, off, e, h1, h2, h3⟩ := h k x hx
  have hl : b < w.heap.size := cell_lt h1
  exact ⟨b, off, e, (hb.cell (p := ⟨b, _, none⟩) hl).trans h1, (hb.cell (p := ⟨b, _, none⟩) hl).trans h2, (hb.cell (p := ⟨b, _, none⟩) hl).trans h3⟩
theorem grown_of_below {w w' : World} (h : Below w.heap.size w w') : w.grownBy w' none := ⟨h.os, h.tape, h.output, h.size, fun k hk _ => h.block k hk⟩
theorem own_below {w w' : World} {base : Nat} {e : TypeId} {size : Nat} {v : Value} {n : Nat} {xs : List Value} (h : w.ownsRow base e size v n xs) (hb : Below w.heap.size w w') : w'.ownsRow base e size v n xs :=
  h.kept (grown_of_below hb) (by cases hv : v.ownBlock <;> simp)
theorem wp_append_run {P : Program} {w w' : World} {o : Oper} {a : Act} {K : Act → World → Prop} {Q : Exit → Act → World → Prop} {v u v' : Value} (s x : Operand) (t t2 : TypeId)
    (ho : o.op = .call { callee := .builtin .append, args := #[s, x], argTypes := #[t, t2] }) (hs : a.eval s = v) (hx : a.eval x = u) (hr : (Builtin.append_ #[t, t2] o.type #[v, u]).run P w = .ok v' w') (h : K (a.put o.dst v') w') : o.wp P a w K Q := by
  unfold Oper.wp execOp
  simp only [ho, resolve, invoke, builtin, Sem.run_bind, Sem.run_pure, Result.andThen_ok, List.map_toArray, List.map_cons, List.map_nil, hs, hx, hr]
  exact h
theorem wpList_append_run {P : Program} {w w' : World} {ops : Array Oper} {rest : List Oper} {o : Oper} {a : Act} {Q : Exit → Act → World → Prop} {v u v' : Value} (hgd : o.guard = none) (s x : Operand) (t t2 : TypeId)
    (ho : o.op = .call { callee := .builtin .append, args := #[s, x], argTypes := #[t, t2] }) (hs : a.eval s = v) (hx : a.eval x = u) (hr : (Builtin.append_ #[t, t2] o.type #[v, u]).run P w = .ok v' w') (h : wpList P ops Q rest (a.put o.dst v') w') : wpList P ops Q (o :: rest) a w :=
  wpList_plain hgd fun _ hK => wp_append_run s x t t2 ho hs hx hr (hK _ _ h)
theorem take_one {α : Type} {l : List α} {k : Nat} {x : α} (h : l[k]? = some x) : l.take (k + 1) = l.take k ++ [x] := by
  rw [List.take_add_one, h]; rfl
end Go.Proofs.YtebejlnegalokaaGreatDoor.Lz
/-
  XLxFi, turned: what this seat needs of it.
-/
namespace Go.Proofs.YtebejlnegalokaaGreatDoor.Lz
open Go.RowKit Go.Maps
theorem below_new (w : World) (o : Obj) : Below w.heap.size w (w.alloc o) := (Below.refl _ w).alloc (Nat.le_refl _) _
end Go.Proofs.YtebejlnegalokaaGreatDoor.Lz
/-
  XLxCl, turned: what this seat needs of it.
-/
namespace Go.Proofs.YtebejlnegalokaaGreatDoor.Lz
open Go.RowKit Go.Maps
/-- Three cells of a block are stored anew. -/
theorem set3 {w : World} {b : Nat} {a1 a2 a3 b1 b2 b3 : Value} {t : TypeId} (h : w.heap[b]? = some (.cells #[a1, a2, a3] t (0, 0))) :
    (((w.setCell ⟨b, 0, none⟩ b1).setCell ⟨b, 1, none⟩ b2).setCell ⟨b, 2, none⟩ b3).heap[b]? = some (.cells #[b1, b2, b3] t (0, 0)) := by
  have h1 := heap_setCell_same w b 0 _ _ b1 h
  have h2 := heap_setCell_same _ b 1 _ _ b2 h1
  have h3 := heap_setCell_same _ b 2 _ _ b3 h2
  rw [h3]
  simp
end Go.Proofs.YtebejlnegalokaaGreatDoor.Lz
/-
  XLxRf, turned: what this seat needs of it.
-/
namespace Go.Proofs.YtebejlnegalokaaGreatDoor.Lz
open Go.RowKit Go.Maps
attribute [local go_sem] Oper.semAt_some
theorem cell_far {W : World} {b o b' o' : Nat} {v : Value} (h : b ≠ b') : (W.setCell ⟨b, o, none⟩ v).cell? ⟨b', o', none⟩ = W.cell? ⟨b', o', none⟩ := World.cell?_setCell_other _ ⟨b, o, none⟩ ⟨b', o', none⟩ _ (fun e => h (by have := congrArg Addr.block e; exact this))
end Go.Proofs.YtebejlnegalokaaGreatDoor.Lz
/-
  XLxB, turned: what this seat needs of it.
-/
namespace Go.Proofs.YtebejlnegalokaaGreatDoor.Lz
open Go.RowKit Go.Maps
abbrev tK : TypeId := 37
theorem blanks_le (s : ByteArray) : dBlanks s ≤ s.size := by
  have := many_le isBlank s.data.toList
  rw [bytes_len] at this
  exact this
theorem word_le (s : ByteArray) : dWord s ≤ s.size := by
  have := wordL_le s.data.toList
  rw [bytes_len] at this
  exact this
end Go.Proofs.YtebejlnegalokaaGreatDoor.Lz
/-
  XLxNp, turned: what this seat needs of it.
-/
namespace Go.Proofs.YtebejlnegalokaaGreatDoor.Lz
open Go.RowKit
theorem noughts_one (c : UInt8) : noughts [c] = [c] := by rw [noughts.eq_def]; split <;> simp_all
theorem noughts_48 (c : UInt8) (l : List UInt8) : noughts (48 :: c :: l) = noughts (c :: l) := by rw [noughts.eq_def]; rfl
theorem noughts_no {a : UInt8} (h : a ≠ 48) (l : List UInt8) : noughts (a :: l) = a :: l := by
  rw [noughts.eq_def]
  split
  · rename_i h2
    simp at h2
    exact absurd h2.1 h
  · rfl
end Go.Proofs.YtebejlnegalokaaGreatDoor.Lz
/-
  XLxNu, turned: what this seat needs of it.
-/
namespace Go.Proofs.YtebejlnegalokaaGreatDoor.Lz
open Go.RowKit Go.Maps
theorem toList_48 : (⟨#[48]⟩ : ByteArray).toList = [48] := by rw [ByteArray.toList_eq]
end Go.Proofs.YtebejlnegalokaaGreatDoor.Lz
/-
  XLxLn, turned: what this seat needs of it.
-/
namespace Go.Proofs.YtebejlnegalokaaGreatDoor.Lz
open Go.RowKit Go.Maps
attribute [local go_sem] Oper.semAt_some
/-- A token is appended. -/
theorem push_tok {W : World} {base : Nat} {v : Value} {l : List Tok} {x : Tok} {g : Nat} (hg : W.heap[g]? = some (.cells #[.int .i64 x.kind, .string x.text, .string x.glyph] tK (0, 0))) (hown : W.ownsRow base tK 3 v l.length (tokCells l)) (hl : l.length ≤ 1000000) (hbase : base ≤ W.heap.size) :
    ∃ A c w', (Builtin.append_ #[34, 34] 34 #[v, .slice (some ⟨g, 0, none⟩) 1 1]).run Tryz.prog W = .ok (.slice A (l.length + 1) c) w' ∧ w'.ownsRow base tK 3 (.slice A (l.length + 1) c) (l ++ [x]).length (tokCells (l ++ [x])) ∧ W.grownBy w' v.ownBlock ∧ ((Value.slice A (l.length + 1) c).ownBlock = v.ownBlock ∨ (Value.slice A (l.length + 1) c).ownBlock = some W.heap.size) := by
  obtain ⟨i0, hi0, hz0, hz1, hz2⟩ := info_parts infoTok
  obtain ⟨v', w', hr, ho, hgr, _, hat⟩ := run_append_own_at (P := Tryz.prog) W base 34 34 tK i0 _ 3 40 Tryz.underlying34 hi0 hz0 hz1 hz2 rfl (by decide) v l.length (tokCells l) hown ⟨g, 0, none⟩ 1 1 x.cells rfl
    (World.news_of_block (cs := x.cells.toArray) (t := tK) (fr := (0, 0)) hg) (by simp [Tok.cells, Value.oneCell']) (by unfold maxLen; omega) (by omega) hbase
  rw [← tokCells_one, ← tokCells_append] at ho
  have ho2 : w'.ownsRow base tK 3 v' (l ++ [x]).length (tokCells (l ++ [x])) := by rw [List.length_append]; exact ho
  obtain ⟨A, c, rfl, _, _, _⟩ := holdsT_of_own ho2
  rw [List.length_append, List.length_singleton] at hr ho2 hat
  exact ⟨A, c, w', hr, by rw [List.length_append, List.length_singleton]; exact ho2, hgr, hat⟩
end Go.Proofs.YtebejlnegalokaaGreatDoor.Lz
/-
  XLxPn, turned: what this seat needs of it.
-/
namespace Go.Proofs.YtebejlnegalokaaGreatDoor.Lz
open Go.RowKit Go.Maps
def isPlain (x : Tok) : Bool := decide (x.kind ≠ 1) && decide (x.kind ≠ 2)
def plainT (l : List Tok) : List Tok := l.filter isPlain
theorem plainT_snoc {l : List Tok} {k : Nat} {x : Tok} (h : l[k]? = some x) : plainT (l.take (k + 1)) = plainT (l.take k) ++ (if isPlain x = true then [x] else []) := by
  unfold plainT
  rw [take_one h, List.filter_append]
  congr 1
  by_cases hx : isPlain x = true
  · rw [if_pos hx]; simp [hx]
  · rw [if_neg hx]; simp [hx]
theorem plain_ways (x : Tok) : (isPlain x = false ∧ (x.kind != 1) = false) ∨ (isPlain x = false ∧ (x.kind != 1) = true ∧ (x.kind != 2) = false) ∨ (isPlain x = true ∧ (x.kind != 1) = true ∧ (x.kind != 2) = true) := by
  unfold isPlain
  by_cases h1 : x.kind = 1
  · exact .inl ⟨by simp [h1], by simp [h1]⟩
  · by_cases h2 : x.kind = 2
    · exact .inr (.inl ⟨by simp [h2], by simp [h1], by simp [h2]⟩)
    · exact .inr (.inr ⟨by simp [h1, h2], by simp [h1], by simp [h2]⟩)
theorem plain_len (l : List Tok) : (plainT l).length ≤ l.length := List.length_filter_le _ _
end Go.Proofs.YtebejlnegalokaaGreatDoor.Lz
