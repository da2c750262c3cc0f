/-
  The document's glyphs and tokens, plainly. No program here.
-/
import Derived.Test.YtflpihedhccdfaaGreatDoorReg
import Derived.WalkKit
import Derived.Lib.TrimU
import Derived.Lib.QuoteLoop
set_option linter.unusedSimpArgs false
set_option linter.unusedVariables false
namespace Go.Proofs.YtflpihedhccdfaaGreatDoor
open Go.RowKit

structure Tok where
  kind : Int
  text : ByteArray
  glyph : ByteArray
deriving DecidableEq

theorem bytes_app (a b : ByteArray) : (a ++ b).data.toList = a.data.toList ++ b.data.toList := by
  rw [ByteArray.data_append]; exact Array.toList_append
theorem bytes_ext (s : ByteArray) (a b : Nat) : (s.extract a b).data.toList = (s.data.toList.drop a).take (b - a) := by
  rw [ByteArray.data_extract]
  simp [List.extract_eq_take_drop]
theorem bytes_eq {a b : ByteArray} (h : a.data.toList = b.data.toList) : a = b := by
  obtain ⟨⟨x⟩⟩ := a; obtain ⟨⟨y⟩⟩ := b; simp at h; rw [h]
theorem bytes_len (s : ByteArray) : s.data.toList.length = s.size := rfl
theorem empty_is {u : ByteArray} (h : u.size = 0) : u.toList.isEmpty = true := by
  rw [ByteArray.toList_eq]
  have : u.data.toList.length = 0 := by rw [bytes_len]; exact h
  rw [List.length_eq_zero_iff.1 this]
  rfl
theorem empty_not {u : ByteArray} (h : 0 < u.size) : u.toList.isEmpty = false := by
  rw [ByteArray.toList_eq]
  have : u.data.toList.length = u.size := bytes_len u
  cases hl : u.data.toList with
  | nil => rw [hl] at this; simp at this; omega
  | cons a l => rfl

/-! ### Glyphs -/
structure Gly where
  glyph : ByteArray
  letter : ByteArray
  cls : Int

def gly (g : Array UInt8) (l : Array UInt8) (c : Int) : Gly := ⟨⟨g⟩, ⟨l⟩, c⟩
def glyphs : List Gly := [
  gly #[43] #[] 1,
  gly #[45] #[] 1,
  gly #[195, 151] #[120] 1,
  gly #[195, 183] #[100] 1,
  gly #[226, 140, 136] #[117] 1,
  gly #[226, 140, 138] #[110] 1,
  gly #[124] #[] 1,
  gly #[61] #[] 1,
  gly #[226, 137, 160] #[113] 1,
  gly #[60] #[] 1,
  gly #[62] #[] 1,
  gly #[226, 137, 164] #[108] 1,
  gly #[226, 137, 165] #[103] 1,
  gly #[226, 136, 167] #[97] 1,
  gly #[226, 136, 168] #[111] 1,
  gly #[126] #[] 1,
  gly #[226, 141, 180] #[114] 1,
  gly #[226, 141, 179] #[105] 1,
  gly #[44] #[] 1,
  gly #[226, 140, 189] #[116] 1,
  gly #[226, 134, 145] #[107] 1,
  gly #[226, 134, 147] #[106] 1,
  gly #[226, 137, 162] #[109] 1,
  gly #[47] #[] 2,
  gly #[92] #[] 2,
  gly #[194, 168] #[101] 2,
  gly #[226, 141, 168] #[99] 2,
  gly #[226, 134, 144] #[115] 3,
  gly #[226, 139, 132] #[122] 3,
  gly #[58] #[] 3,
  gly #[123] #[] 3,
  gly #[125] #[] 3,
  gly #[40] #[] 3,
  gly #[41] #[] 3,
  gly #[226, 141, 186] #[112] 4,
  gly #[226, 141, 181] #[119] 4,
  gly #[194, 175] #[104] 5,
  gly #[226, 141, 157] #[98] 6]

/-- Does a text begin with another one? -/
def begins (s t : ByteArray) : Bool := decide (t.size ≤ s.size) && decide (s.extract 0 t.size = t)
def tick (l : ByteArray) : ByteArray := ⟨#[96]⟩ ++ l
def firstIn (s : ByteArray) : List Gly → ByteArray × Nat
  | [] => (ByteArray.empty, 0)
  | x :: l => if begins s x.glyph = true then (x.glyph, x.glyph.size) else if x.letter ≠ ByteArray.empty ∧ begins s (tick x.letter) = true then (x.glyph, 2) else firstIn s l
def gFirst (s : ByteArray) : ByteArray × Nat := firstIn s glyphs
def classIn (g : ByteArray) : List Gly → Int
  | [] => 0
  | x :: l => if x.glyph = g then x.cls else classIn g l
def gClass (g : ByteArray) : Int := classIn g glyphs

/-! ### Runs of bytes -/
def isBlank (c : UInt8) : Bool := c == 32 || c == 9
def isDig (c : UInt8) : Bool := decide (48 ≤ c.toNat) && decide (c.toNat ≤ 57)
def isLet (c : UInt8) : Bool := (decide (97 ≤ c.toNat) && decide (c.toNat ≤ 122)) || ((decide (65 ≤ c.toNat) && decide (c.toNat ≤ 90)) || c == 95)
def many (p : UInt8 → Bool) (l : List UInt8) : Nat := (l.takeWhile p).length
def dBlanks (s : ByteArray) : Nat := many isBlank s.data.toList
def dDigits (s : ByteArray) : Nat := many isDig s.data.toList
def wordL : List UInt8 → Nat
  | [] => 0
  | c :: l => if isLet c = true then many (fun c => isLet c || isDig c) l + 1 else 0
def dWord (s : ByteArray) : Nat := wordL s.data.toList
/-- How many bytes a text in quotes has, from place i on. -/
def quoGo : List UInt8 → Nat → Nat
  | [], _ => 0
  | c :: l, i => if c ≠ 39 then quoGo l (i + 1) else match l with | [] => i + 1 | d :: r => if d ≠ 39 then i + 1 else quoGo r (i + 2)
def dQuoted (s : ByteArray) : Nat := quoGo (s.data.toList.drop 1) 1

/-! ### Tokens -/
def noText : ByteArray := ByteArray.empty
/-- Without the noughts ahead. -/
def noughts : List UInt8 → List UInt8
  | 48 :: c :: l => noughts (c :: l)
  | l => l
def dNumber (s : ByteArray) (n : Nat) : Tok :=
  let k := dDigits (s.extract n s.size)
  if 18 < k ∨ k = 0 then ⟨10, s.extract 0 (n + k), noText⟩ else
  let d : ByteArray := ⟨(noughts (s.extract n (n + k)).data.toList).toArray⟩
  ⟨3, s.extract 0 (n + k), if 0 < n ∧ d ≠ ⟨#[48]⟩ then ⟨#[194, 175]⟩ ++ d else d⟩
def dKind (c : Int) : Int := if c = 1 then 6 else if c = 2 then 7 else if c = 3 then 8 else 9
/-- The first byte. -/
def byte0 (s : ByteArray) : Nat := (s.data.toList.headD 0).toNat
/-- How many bytes the rune has that a text begins with. -/
def dStep (s : ByteArray) : Nat := (Utf8.decode s 0).2
/-- The first token of a text that is not empty. -/
def dFirst (s : ByteArray) : Tok :=
  if 0 < dBlanks s then ⟨1, s.extract 0 (dBlanks s), noText⟩ else
  if gClass (gFirst s).1 = 6 then ⟨2, s, (gFirst s).1⟩ else
  if byte0 s = 39 then (if dQuoted s = 0 then ⟨10, s, noText⟩ else ⟨4, s.extract 0 (dQuoted s), noText⟩) else
  if gClass (gFirst s).1 = 5 then dNumber s (gFirst s).2 else
  if 48 ≤ byte0 s ∧ byte0 s ≤ 57 then dNumber s 0 else
  if 20 < dWord s then ⟨10, s.extract 0 (dWord s), noText⟩ else
  if 0 < dWord s then ⟨5, s.extract 0 (dWord s), noText⟩ else
  if 0 < (gFirst s).2 then ⟨dKind (gClass (gFirst s).1), s.extract 0 (gFirst s).2, (gFirst s).1⟩ else
  ⟨10, s.extract 0 (dStep s), noText⟩
def dLineGo : Nat → ByteArray → List Tok
  | 0, _ => []
  | k + 1, s => if s = noText then [] else dFirst s :: dLineGo k (s.extract (dFirst s).text.size s.size)
def dLine (s : ByteArray) : List Tok := dLineGo s.size s

/-- The text that the statements of layer 4 show. -/
def shownText : ByteArray := ⟨#[97, 226, 134, 144, 194, 175, 48, 55, 32, 226, 141, 157, 32, 120]⟩
def shownL : List Tok := [⟨5, ⟨#[97]⟩, noText⟩, ⟨8, ⟨#[226, 134, 144]⟩, ⟨#[226, 134, 144]⟩⟩, ⟨3, ⟨#[194, 175, 48, 55]⟩, ⟨#[194, 175, 55]⟩⟩, ⟨1, ⟨#[32]⟩, noText⟩, ⟨2, ⟨#[226, 141, 157, 32, 120]⟩, ⟨#[226, 141, 157]⟩⟩]
theorem shown_line : dLine shownText = shownL := by decide +kernel
end Go.Proofs.YtflpihedhccdfaaGreatDoor
/-
  Laws of a text's first token, of its tokens, plainly. No program here.
-/
namespace Go.Proofs.YtflpihedhccdfaaGreatDoor
open Go.RowKit

/-! ### Beginnings -/
theorem ext_list (s : ByteArray) (n : Nat) : (s.extract 0 n).data.toList = s.data.toList.take n := by rw [bytes_ext, List.drop_zero, Nat.sub_zero]
theorem ext_all (s : ByteArray) {n : Nat} (h : s.size ≤ n) : s.extract 0 n = s := bytes_eq (by rw [ext_list, List.take_of_length_le (by rw [bytes_len]; exact h)])
theorem ext_ext (s : ByteArray) (n m : Nat) : (s.extract 0 n).extract 0 m = s.extract 0 (min m n) := bytes_eq (by rw [ext_list, ext_list, ext_list, List.take_take])
theorem ext_same (s : ByteArray) (n : Nat) : (s.extract 0 n).extract 0 n = s.extract 0 n := by rw [ext_ext, Nat.min_self]
theorem ext_size (s : ByteArray) (n : Nat) : (s.extract 0 n).size = min n s.size := by rw [← bytes_len, ext_list, List.length_take, bytes_len]
theorem many_take (p : UInt8 → Bool) : ∀ (l : List UInt8) (n : Nat), many p (l.take n) = min n (many p l)
  | [], n => by simp [many]
  | c :: l, 0 => by simp [many]
  | c :: l, n + 1 => by
    have ih := many_take p l n
    unfold many at *
    rw [List.take_succ_cons, List.takeWhile_cons, List.takeWhile_cons]
    cases p c with
    | false => simp
    | true =>
      simp only [if_true, List.length_cons, ih]
      omega
theorem many_le (p : UInt8 → Bool) (l : List UInt8) : many p l ≤ l.length := by
  unfold many
  exact (List.takeWhile_sublist p).length_le
theorem wordL_take : ∀ (l : List UInt8) (n : Nat), wordL (l.take n) = min n (wordL l)
  | [], n => by simp [wordL]
  | c :: l, 0 => by simp [wordL]
  | c :: l, n + 1 => by
    unfold wordL
    rw [List.take_succ_cons]
    simp only
    split
    · rw [many_take]; omega
    · simp
theorem wordL_le (l : List UInt8) : wordL l ≤ l.length := by
  cases l with
  | nil => simp [wordL]
  | cons c l =>
    have := many_le (fun c => isLet c || isDig c) l
    show (if isLet c = true then many (fun c => isLet c || isDig c) l + 1 else 0) ≤ l.length + 1
    by_cases hc : isLet c = true
    · rw [if_pos hc]; omega
    · rw [if_neg hc]; omega
theorem quo_nil (i : Nat) : quoGo [] i = 0 := by unfold quoGo; rfl
theorem quo_other {c : UInt8} (h : c ≠ 39) (l : List UInt8) (i : Nat) : quoGo (c :: l) i = quoGo l (i + 1) := by rw [quoGo.eq_def]; simp only; rw [if_pos h]
theorem quo_end (i : Nat) : quoGo [39] i = i + 1 := by rw [quoGo.eq_def]; simp
theorem quo_stop {d : UInt8} (h : d ≠ 39) (r : List UInt8) (i : Nat) : quoGo (39 :: d :: r) i = i + 1 := by rw [quoGo.eq_def]; simp [h]
theorem quo_two (r : List UInt8) (i : Nat) : quoGo (39 :: 39 :: r) i = quoGo r (i + 2) := by rw [quoGo.eq_def]; simp
theorem quo_take : ∀ (m : Nat) (l : List UInt8) (i q : Nat), l.length ≤ m → quoGo l i = q → q ≠ 0 → i < q ∧ q ≤ i + l.length ∧ quoGo (l.take (q - i)) i = q
  | _, [], i, q, _, h, h0 => by rw [quo_nil] at h; omega
  | 0, c :: l, i, q, hm, _, _ => by simp at hm
  | m + 1, c :: l, i, q, hm, h, h0 => by
    have hm' : l.length ≤ m := by simpa using hm
    by_cases hc : c ≠ 39
    · have h' : quoGo l (i + 1) = q := by rw [quo_other hc] at h; exact h
      obtain ⟨h1, h2, h3⟩ := quo_take m l (i + 1) q hm' h' h0
      refine ⟨by omega, by simp; omega, ?_⟩
      obtain ⟨j, hj⟩ : ∃ j, q - i = j + 1 := ⟨q - i - 1, by omega⟩
      rw [hj, List.take_succ_cons]
      rw [quo_other hc, show j = q - (i + 1) by omega]
      exact h3
    · obtain rfl : c = 39 := by simpa using hc
      cases l with
      | nil =>
        rw [quo_end] at h
        subst h
        refine ⟨by omega, by simp, ?_⟩
        rw [show i + 1 - i = 1 by omega]
        exact quo_end i
      | cons d r =>
        by_cases hd : d ≠ 39
        · rw [quo_stop hd] at h
          subst h
          refine ⟨by omega, by simp, ?_⟩
          rw [show i + 1 - i = 1 by omega]
          exact quo_end i
        · obtain rfl : d = 39 := by simpa using hd
          have h' : quoGo r (i + 2) = q := by rw [quo_two] at h; exact h
          have hr : r.length ≤ m := by simp at hm'; omega
          obtain ⟨h1, h2, h3⟩ := quo_take m r (i + 2) q hr h' h0
          refine ⟨by omega, by simp; omega, ?_⟩
          obtain ⟨j, hj⟩ : ∃ j, q - i = j + 2 := ⟨q - i - 2, by omega⟩
          rw [hj]
          show quoGo (39 :: 39 :: r.take j) i = q
          rw [quo_two, show j = q - (i + 2) by omega]
          exact h3
theorem byte0_take (s : ByteArray) {n : Nat} (h : 0 < n) : byte0 (s.extract 0 n) = byte0 s := by
  unfold byte0
  rw [ext_list]
  cases s.data.toList with
  | nil => simp
  | cons c l =>
    obtain ⟨m, rfl⟩ : ∃ m, n = m + 1 := ⟨n - 1, by omega⟩
    rw [List.take_succ_cons]
    rfl

/-! ### The glyph that is first -/
theorem begins_iff {s g : ByteArray} : begins s g = true ↔ s.data.toList.take g.size = g.data.toList := by
  unfold begins
  rw [Bool.and_eq_true, decide_eq_true_eq, decide_eq_true_eq]
  constructor
  · rintro ⟨_, h⟩
    rw [← ext_list, h]
  · intro h
    have hl := congrArg List.length h
    rw [List.length_take, bytes_len, bytes_len] at hl
    exact ⟨by omega, bytes_eq (by rw [ext_list]; exact h)⟩
theorem begins_less {s g : ByteArray} {n : Nat} (h : begins (s.extract 0 n) g = true) : begins s g = true := by
  rw [begins_iff, ext_list, List.take_take] at h
  rw [begins_iff]
  have hl := congrArg List.length h
  rw [List.length_take, bytes_len, bytes_len] at hl
  rw [Nat.min_eq_left (by omega)] at h
  exact h
theorem begins_more {s g : ByteArray} {n : Nat} (h : begins s g = true) (hn : g.size ≤ n) : begins (s.extract 0 n) g = true := by
  rw [begins_iff] at *
  rw [ext_list, List.take_take, Nat.min_eq_left hn]
  exact h
theorem begins_size {s g : ByteArray} (h : begins s g = true) : g.size ≤ s.size := by
  unfold begins at h
  rw [Bool.and_eq_true, decide_eq_true_eq] at h
  exact h.1
def fineG (x : Gly) : Bool := (decide (x.letter = ByteArray.empty) || decide (x.letter.size = 1)) && decide (0 < x.glyph.size)
theorem glyphs_fine : ∀ x ∈ glyphs, fineG x = true := by decide +kernel
theorem tick_size {l : ByteArray} (h : l.size = 1) : (tick l).size = 2 := by unfold tick; rw [ByteArray.size_append, h]; rfl
theorem fine_letter {x : Gly} (h : fineG x = true) (h2 : x.letter ≠ ByteArray.empty) : (tick x.letter).size = 2 := by
  unfold fineG at h
  simp only [Bool.and_eq_true, Bool.or_eq_true, decide_eq_true_eq] at h
  rcases h.1 with h1 | h1
  · exact absurd h1 h2
  · exact tick_size h1
theorem fine_pos {x : Gly} (h : fineG x = true) : 0 < x.glyph.size := by
  unfold fineG at h
  simp only [Bool.and_eq_true, decide_eq_true_eq] at h
  exact h.2
theorem firstIn_take {s : ByteArray} {n : Nat} : ∀ (l : List Gly), (∀ x ∈ l, fineG x = true) → (firstIn s l).2 ≤ n → firstIn (s.extract 0 n) l = firstIn s l
  | [], _, _ => rfl
  | x :: l, hf, h => by
    have hx := hf x List.mem_cons_self
    unfold firstIn at h ⊢
    by_cases h1 : begins s x.glyph = true
    · rw [if_pos h1] at h ⊢
      rw [if_pos (begins_more h1 h)]
    · rw [if_neg h1] at h ⊢
      rw [if_neg (fun hh => h1 (begins_less hh))]
      by_cases h2 : x.letter ≠ ByteArray.empty ∧ begins s (tick x.letter) = true
      · rw [if_pos h2] at h ⊢
        rw [if_pos ⟨h2.1, begins_more h2.2 (by rw [fine_letter hx h2.1]; exact h)⟩]
      · rw [if_neg h2] at h ⊢
        rw [if_neg (fun hh => h2 ⟨hh.1, begins_less hh.2⟩)]
        exact firstIn_take l (fun y hy => hf y (List.mem_cons_of_mem _ hy)) h
theorem gFirst_take {s : ByteArray} {n : Nat} (h : (gFirst s).2 ≤ n) : gFirst (s.extract 0 n) = gFirst s := firstIn_take glyphs glyphs_fine h
theorem firstIn_size {s : ByteArray} : ∀ (l : List Gly), (∀ x ∈ l, fineG x = true) → (firstIn s l).2 ≤ s.size ∧ ((firstIn s l).1 ≠ ByteArray.empty → 0 < (firstIn s l).2)
  | [], _ => ⟨Nat.zero_le _, fun h => absurd rfl h⟩
  | x :: l, hf => by
    have hx := hf x List.mem_cons_self
    unfold firstIn
    by_cases h1 : begins s x.glyph = true
    · rw [if_pos h1]
      exact ⟨begins_size h1, fun _ => fine_pos hx⟩
    · rw [if_neg h1]
      by_cases h2 : x.letter ≠ ByteArray.empty ∧ begins s (tick x.letter) = true
      · rw [if_pos h2]
        have := begins_size h2.2
        rw [fine_letter hx h2.1] at this
        exact ⟨this, fun _ => by show 0 < 2; omega⟩
      · rw [if_neg h2]
        exact firstIn_size l (fun y hy => hf y (List.mem_cons_of_mem _ hy))
theorem gFirst_size (s : ByteArray) : (gFirst s).2 ≤ s.size := (firstIn_size glyphs glyphs_fine).1
theorem class_none : gClass ByteArray.empty = 0 := by decide +kernel
theorem gFirst_pos {s : ByteArray} (h : gClass (gFirst s).1 ≠ 0) : 0 < (gFirst s).2 := (firstIn_size glyphs glyphs_fine).2 (fun e => h (by
  have e2 : (gFirst s).1 = ByteArray.empty := e
  rw [e2]; exact class_none))
/-- Bytes that no glyph begins with. -/
def plainB (n : Nat) : Bool := n == 39 || (decide (48 ≤ n) && decide (n ≤ 57)) || (decide (97 ≤ n) && decide (n ≤ 122)) || (decide (65 ≤ n) && decide (n ≤ 90)) || n == 95
theorem glyphs_heads : ∀ x ∈ glyphs, plainB (byte0 x.glyph) = false := by decide +kernel
theorem begins_head {s g : ByteArray} (h : begins s g = true) (hg : 0 < g.size) : byte0 s = byte0 g := by
  rw [begins_iff] at h
  unfold byte0
  rw [← h]
  cases s.data.toList with
  | nil => simp
  | cons c l =>
    obtain ⟨m, e⟩ : ∃ m, g.size = m + 1 := ⟨g.size - 1, by omega⟩
    rw [e, List.take_succ_cons]
    rfl
theorem firstIn_none {s : ByteArray} (hp : plainB (byte0 s) = true) : ∀ (l : List Gly), (∀ x ∈ l, fineG x = true ∧ plainB (byte0 x.glyph) = false) → firstIn s l = (ByteArray.empty, 0)
  | [], _ => rfl
  | x :: l, hf => by
    obtain ⟨hx, hh⟩ := hf x List.mem_cons_self
    unfold firstIn
    rw [if_neg (fun h1 => by rw [← begins_head h1 (fine_pos hx), hp] at hh; cases hh), if_neg (fun h2 => by
      have h3 := begins_head h2.2 (by rw [fine_letter hx h2.1]; omega)
      have h4 : byte0 (tick x.letter) = 96 := by
        unfold byte0 tick
        rw [bytes_app]
        rfl
      rw [h3, h4] at hp
      revert hp
      decide)]
    exact firstIn_none hp l (fun y hy => hf y (List.mem_cons_of_mem _ hy))
theorem gFirst_none {s : ByteArray} (h : plainB (byte0 s) = true) : gFirst s = (ByteArray.empty, 0) := firstIn_none h glyphs (fun x hx => ⟨glyphs_fine x hx, glyphs_heads x hx⟩)
theorem word_head {s : ByteArray} (h : 0 < dWord s) : plainB (byte0 s) = true := by
  unfold dWord wordL at h
  unfold byte0
  cases hl : s.data.toList with
  | nil => rw [hl] at h; simp at h
  | cons c l =>
    rw [hl] at h
    simp only at h
    split at h
    · rename_i hc
      simp only [List.headD_cons]
      unfold isLet at hc
      unfold plainB
      simp only [Bool.or_eq_true, Bool.and_eq_true, decide_eq_true_eq, beq_iff_eq] at hc ⊢
      rcases hc with h1 | h1 | rfl
      · exact .inl (.inl (.inr h1))
      · exact .inl (.inr h1)
      · exact .inr rfl
    · omega
theorem dWord_take (s : ByteArray) (n : Nat) : dWord (s.extract 0 n) = min n (dWord s) := by unfold dWord; rw [ext_list, wordL_take]
theorem dBlanks_take (s : ByteArray) (n : Nat) : dBlanks (s.extract 0 n) = min n (dBlanks s) := by unfold dBlanks; rw [ext_list, many_take]
theorem dQuoted_take {s : ByteArray} (h : dQuoted s ≠ 0) : dQuoted (s.extract 0 (dQuoted s)) = dQuoted s ∧ 1 < dQuoted s ∧ (0 < s.size → dQuoted s ≤ s.size) := by
  obtain ⟨h1, h2, h3⟩ := quo_take _ _ 1 _ (Nat.le_refl _) (show quoGo (s.data.toList.drop 1) 1 = dQuoted s from rfl) h
  refine ⟨?_, h1, fun hs => ?_⟩
  · unfold dQuoted
    rw [ext_list, List.drop_take]
    exact h3
  · rw [List.length_drop, bytes_len] at h2
    omega
theorem digits_take (s : ByteArray) (n k : Nat) (hk : dDigits (s.extract n s.size) = k) : dDigits ((s.extract 0 (n + k)).extract n (s.extract 0 (n + k)).size) = k := by
  have h0 : (s.data.toList.drop n).take (s.size - n) = s.data.toList.drop n := List.take_of_length_le (by rw [List.length_drop, bytes_len]; omega)
  unfold dDigits at hk ⊢
  rw [bytes_ext, h0] at hk
  have hkl := many_le isDig (s.data.toList.drop n)
  rw [hk, List.length_drop, bytes_len] at hkl
  rw [bytes_ext, ext_list, ext_size, List.drop_take, List.take_take, many_take, hk]
  omega
theorem mid_take (s : ByteArray) (n k : Nat) : (s.extract 0 (n + k)).extract n (n + k) = s.extract n (n + k) := bytes_eq (by
  rw [bytes_ext, ext_list, bytes_ext, List.drop_take, List.take_take, Nat.min_self])
theorem dNumber_again {s : ByteArray} {n : Nat} (h : (dNumber s n).kind ≠ 10) : ∃ k, dDigits (s.extract n s.size) = k ∧ 0 < k ∧ (dNumber s n).text = s.extract 0 (n + k) ∧ dNumber (s.extract 0 (n + k)) n = dNumber s n := by
  refine ⟨_, rfl, ?_⟩
  have hd := digits_take s n _ rfl
  unfold dNumber at h ⊢
  simp only at h ⊢
  split at h
  · exact absurd rfl h
  · rename_i hk
    rw [if_neg hk, hd, if_neg hk, mid_take, ext_same]
    exact ⟨by omega, rfl, rfl⟩

/-! ### Again -/
theorem first_again {s : ByteArray} (hs : 0 < s.size) (h : (dFirst s).kind ≠ 10) : dFirst (dFirst s).text = dFirst s := by
  unfold dFirst at h ⊢
  by_cases h1 : 0 < dBlanks s
  · simp only [if_pos h1]
    rw [dBlanks_take, Nat.min_self, if_pos h1, ext_same]
  · have b0 : dBlanks s = 0 := by omega
    have bt : ∀ n, ¬ 0 < dBlanks (s.extract 0 n) := fun n => by rw [dBlanks_take]; omega
    simp only [if_neg h1] at h ⊢
    by_cases h2 : gClass (gFirst s).1 = 6
    · simp only [if_pos h2, if_neg h1]
    · simp only [if_neg h2] at h ⊢
      by_cases h3 : byte0 s = 39
      · simp only [if_pos h3] at h ⊢
        by_cases h4 : dQuoted s = 0
        · simp only [if_pos h4] at h
          exact absurd trivial (by simp at h)
        · obtain ⟨q1, q2, _⟩ := dQuoted_take h4
          have hb := byte0_take s (n := dQuoted s) (by omega)
          have hg := gFirst_none (s := s.extract 0 (dQuoted s)) (by rw [hb, h3]; decide)
          simp only [if_neg h4]
          rw [if_neg (bt _), hg, class_none, if_neg (by decide), if_pos (hb.trans h3), q1, if_neg h4, ext_same]
      · simp only [if_neg h3] at h ⊢
        by_cases h4 : gClass (gFirst s).1 = 5
        · simp only [if_pos h4] at h ⊢
          obtain ⟨k, hk, k0, ht, ha⟩ := dNumber_again h
          have hp := gFirst_pos (s := s) (by rw [h4]; decide)
          have hg := gFirst_take (s := s) (n := (gFirst s).2 + k) (by omega)
          rw [ht, if_neg (bt _), hg, if_neg h2, if_neg (by rw [byte0_take s (by omega)]; exact h3), if_pos h4, ha]
        · simp only [if_neg h4] at h ⊢
          by_cases h5 : 48 ≤ byte0 s ∧ byte0 s ≤ 57
          · simp only [if_pos h5] at h ⊢
            obtain ⟨k, hk, k0, ht, ha⟩ := dNumber_again h
            have hb := byte0_take s (n := 0 + k) (by omega)
            have hg := gFirst_none (s := s.extract 0 (0 + k)) (by rw [hb]; unfold plainB; simp [h5])
            rw [ht, if_neg (bt _), hg, class_none, if_neg (by decide), if_neg (by rw [hb]; exact h3), if_neg (by decide), hb, if_pos h5, ha]
          · simp only [if_neg h5] at h ⊢
            by_cases h6 : 20 < dWord s
            · simp only [if_pos h6] at h
              exact absurd trivial (by simp at h)
            · simp only [if_neg h6] at h ⊢
              by_cases h7 : 0 < dWord s
              · simp only [if_pos h7]
                have hb := byte0_take s (n := dWord s) h7
                have hg := gFirst_none (s := s.extract 0 (dWord s)) (by rw [hb]; exact word_head h7)
                rw [if_neg (bt _), hg, class_none, if_neg (by decide), if_neg (by rw [hb]; exact h3), if_neg (by decide), hb, if_neg h5, dWord_take, Nat.min_self, if_neg h6, if_pos h7, ext_same]
              · simp only [if_neg h7] at h ⊢
                by_cases h8 : 0 < (gFirst s).2
                · simp only [if_pos h8]
                  have hb := byte0_take s (n := (gFirst s).2) h8
                  have hg := gFirst_take (s := s) (n := (gFirst s).2) (Nat.le_refl _)
                  have hw : dWord s = 0 := by omega
                  rw [if_neg (bt _), hg, if_neg h2, if_neg (by rw [hb]; exact h3), if_neg h4, hb, if_neg h5, dWord_take, hw, Nat.min_zero, if_neg (by omega), if_neg (by omega), if_pos h8, ext_same]
                · simp only [if_neg h8] at h
                  exact absurd trivial (by simp at h)

/-! ### The first token is a beginning -/
theorem dStep_range {s : ByteArray} (hs : 0 < s.size) : 1 ≤ dStep s ∧ dStep s ≤ s.size := ⟨Lib.width_pos s 0, Lib.width_le s hs⟩
theorem dNumber_text {s : ByteArray} {n : Nat} : (dNumber s n).text = s.extract 0 (n + dDigits (s.extract n s.size)) := by
  unfold dNumber
  simp only
  split <;> rfl
theorem dDigits_le (s : ByteArray) {n : Nat} (h : n ≤ s.size) : n + dDigits (s.extract n s.size) ≤ s.size := by
  unfold dDigits
  have := many_le isDig (s.extract n s.size).data.toList
  rw [bytes_len, ByteArray.size_extract] at this
  omega
theorem dDigits_pos {s : ByteArray} (h : 48 ≤ byte0 s ∧ byte0 s ≤ 57) : 0 < dDigits (s.extract 0 s.size) := by
  rw [ext_all s (Nat.le_refl _)]
  unfold dDigits many
  unfold byte0 at h
  cases hl : s.data.toList with
  | nil => rw [hl] at h; simp at h
  | cons c l =>
    rw [hl] at h
    simp only [List.headD_cons] at h
    rw [List.takeWhile_cons, if_pos (by unfold isDig; simp [h])]
    simp
theorem first_begins {s : ByteArray} (hs : 0 < s.size) : ∃ n, 1 ≤ n ∧ n ≤ s.size ∧ (dFirst s).text = s.extract 0 n ∧ 1 ≤ (dFirst s).kind ∧ (dFirst s).kind ≤ 10 := by
  unfold dFirst
  split
  · rename_i h
    exact ⟨_, h, many_le _ _, rfl, by simp, by simp⟩
  split
  · exact ⟨_, hs, Nat.le_refl _, (ext_all s (Nat.le_refl _)).symm, by simp, by simp⟩
  split
  · split
    · exact ⟨_, hs, Nat.le_refl _, (ext_all s (Nat.le_refl _)).symm, by simp, by simp⟩
    · rename_i h
      obtain ⟨_, q2, q3⟩ := dQuoted_take h
      exact ⟨_, by omega, q3 hs, rfl, by simp, by simp⟩
  have hk : ∀ n, (dNumber s n).kind = 10 ∨ (dNumber s n).kind = 3 := fun n => by
    unfold dNumber
    simp only
    split
    · exact .inl rfl
    · exact .inr rfl
  split
  · rename_i h
    have hp := gFirst_pos (s := s) (by rw [h]; decide)
    have := dDigits_le s (gFirst_size s)
    exact ⟨_, by omega, this, dNumber_text, by rcases hk (gFirst s).2 with e | e <;> rw [e] <;> decide, by rcases hk (gFirst s).2 with e | e <;> rw [e] <;> decide⟩
  split
  · rename_i h
    have := dDigits_le s (Nat.zero_le s.size)
    have hp := dDigits_pos h
    exact ⟨_, by omega, this, dNumber_text, by rcases hk 0 with e | e <;> rw [e] <;> decide, by rcases hk 0 with e | e <;> rw [e] <;> decide⟩
  have hw : dWord s ≤ s.size := by have := wordL_le s.data.toList; rw [bytes_len] at this; exact this
  split
  · rename_i h
    exact ⟨_, by omega, hw, rfl, by simp, by simp⟩
  split
  · rename_i h
    exact ⟨_, by omega, hw, rfl, by simp, by simp⟩
  split
  · rename_i h
    refine ⟨_, h, gFirst_size s, rfl, ?_, ?_⟩
    · show 1 ≤ dKind _
      unfold dKind
      split; · decide
      split; · decide
      split <;> decide
    · show dKind _ ≤ 10
      unfold dKind
      split; · decide
      split; · decide
      split <;> decide
  · obtain ⟨h1, h2⟩ := dStep_range hs
    exact ⟨_, h1, h2, rfl, by simp, by simp⟩

/-! ### Tokens -/
theorem go_fuel : ∀ (k m : Nat) (s : ByteArray), s.size ≤ k → s.size ≤ m → dLineGo k s = dLineGo m s
  | 0, 0, s, _, _ => rfl
  | 0, m + 1, s, h, _ => by
    have : s = noText := bytes_eq (by
      have h1 : s.data.toList.length = 0 := by rw [bytes_len]; omega
      rw [List.length_eq_zero_iff.1 h1]; rfl)
    unfold dLineGo
    rw [if_pos this]
  | k + 1, 0, s, _, h => by
    have : s = noText := bytes_eq (by
      have h1 : s.data.toList.length = 0 := by rw [bytes_len]; omega
      rw [List.length_eq_zero_iff.1 h1]; rfl)
    unfold dLineGo
    rw [if_pos this]
  | k + 1, m + 1, s, h1, h2 => by
    unfold dLineGo
    split
    · rfl
    · rename_i h
      have hs : 0 < s.size := Nat.pos_of_ne_zero fun e => h (bytes_eq (by
        have h1 : s.data.toList.length = 0 := by rw [bytes_len]; omega
        rw [List.length_eq_zero_iff.1 h1]; rfl))
      obtain ⟨n, n1, n2, e, _⟩ := first_begins hs
      have hz : (s.extract (dFirst s).text.size s.size).size < s.size := by
        rw [ByteArray.size_extract, e, ext_size]
        omega
      rw [go_fuel k m _ (by omega) (by omega)]
theorem size_pos {s : ByteArray} (h : s ≠ noText) : 0 < s.size := Nat.pos_of_ne_zero fun e => h (bytes_eq (by
  have h1 : s.data.toList.length = 0 := by rw [bytes_len]; omega
  rw [List.length_eq_zero_iff.1 h1]; rfl))
def restOf (s : ByteArray) : ByteArray := s.extract (dFirst s).text.size s.size
theorem dLine_nil : dLine noText = [] := by decide +kernel
theorem rest_less {s : ByteArray} (hs : 0 < s.size) : (restOf s).size < s.size := by
  obtain ⟨n, n1, n2, e, _⟩ := first_begins hs
  unfold restOf
  rw [ByteArray.size_extract, e, ext_size]
  omega
theorem dLine_cons {s : ByteArray} (hs : 0 < s.size) : dLine s = dFirst s :: dLine (restOf s) := by
  have hne : s ≠ noText := fun e => by rw [e] at hs; exact absurd hs (by decide)
  have hr := rest_less hs
  unfold dLine
  obtain ⟨k, hk⟩ : ∃ k, s.size = k + 1 := ⟨s.size - 1, by omega⟩
  rw [hk]
  show (if s = noText then [] else dFirst s :: dLineGo k (restOf s)) = _
  rw [if_neg hne, go_fuel k (restOf s).size _ (by omega) (Nat.le_refl _)]
theorem first_rest {s : ByteArray} (hs : 0 < s.size) : (dFirst s).text ++ restOf s = s := by
  obtain ⟨n, n1, n2, e, _⟩ := first_begins hs
  unfold restOf
  rw [e, ext_size, Nat.min_eq_left n2]
  refine bytes_eq ?_
  rw [bytes_app, ext_list, bytes_ext, List.take_of_length_le (l := s.data.toList.drop n) (by rw [List.length_drop, bytes_len]; omega), List.take_append_drop]
/-- What tokens say. -/
def textOf (l : List Tok) : ByteArray := l.foldl (fun b x => b ++ x.text) ByteArray.empty
theorem textOf_from : ∀ (l : List Tok) (b : ByteArray), l.foldl (fun b x => b ++ x.text) b = b ++ textOf l
  | [], b => by unfold textOf; simp
  | x :: l, b => by
    unfold textOf
    rw [List.foldl_cons, List.foldl_cons, textOf_from l, textOf_from l (ByteArray.empty ++ x.text), ByteArray.empty_append, ByteArray.append_assoc]
theorem textOf_cons (x : Tok) (l : List Tok) : textOf (x :: l) = x.text ++ textOf l := by
  unfold textOf
  rw [List.foldl_cons, textOf_from l, ByteArray.empty_append]
  rfl
/-- The tokens' texts are the line; none is empty; kinds. -/
theorem line_whole : ∀ (m : Nat) (s : ByteArray), s.size ≤ m → textOf (dLine s) = s ∧ ∀ x ∈ dLine s, 0 < x.text.size ∧ x.text.size ≤ s.size ∧ 1 ≤ x.kind ∧ x.kind ≤ 10 ∧ x = dFirst x.text ∨ (0 < x.text.size ∧ x.text.size ≤ s.size ∧ x.kind = 10)
  | m, s, hm => by
    by_cases hs : 0 < s.size
    · have hr := rest_less hs
      match m, hm with
      | 0, hm => omega
      | m + 1, hm =>
        obtain ⟨i1, i2⟩ := line_whole m (restOf s) (by omega)
        rw [dLine_cons hs, textOf_cons, i1, first_rest hs]
        refine ⟨rfl, fun x hx => ?_⟩
        rcases List.mem_cons.1 hx with rfl | hx
        · obtain ⟨n, n1, n2, e, k1, k2⟩ := first_begins hs
          have hz : (dFirst s).text.size = n := by rw [e, ext_size]; omega
          by_cases hk : (dFirst s).kind = 10
          · exact .inr ⟨by omega, by omega, hk⟩
          · exact .inl ⟨by omega, by omega, k1, k2, (first_again hs hk).symm⟩
        · rcases i2 x hx with ⟨a1, a2, a3⟩ | ⟨a1, a2, a3⟩
          · exact .inl ⟨a1, by omega, a3⟩
          · exact .inr ⟨a1, by omega, a3⟩
    · have e : s = noText := Classical.byContradiction fun h => hs (size_pos h)
      subst e
      rw [dLine_nil]
      exact ⟨rfl, fun x hx => by simp at hx⟩
theorem line_first_only {x : Tok} (h : x = dFirst x.text) (hs : 0 < x.text.size) : dLine x.text = [x] := by
  rw [dLine_cons hs]
  have e : restOf x.text = noText := by
    unfold restOf
    rw [← h]
    refine bytes_eq ?_
    rw [bytes_ext, List.drop_of_length_le (by rw [bytes_len]; exact Nat.le_refl _), List.take_nil]
    rfl
  rw [e, dLine_nil, ← h]
/-- A text is a name just if it is one token, a name. -/
theorem first_name {s : ByteArray} (h : (dFirst s).kind = 5) : (dFirst s).glyph = noText := by
  unfold dFirst at h ⊢
  split at h
  · cases h
  rename_i h1
  rw [if_neg h1]
  split at h
  · cases h
  rename_i h2
  rw [if_neg h2]
  split at h
  · split at h <;> cases h
  rename_i h3
  rw [if_neg h3]
  have hk : ∀ n, (dNumber s n).kind ≠ 5 := fun n => by
    unfold dNumber
    simp only
    split <;> simp
  split at h
  · exact absurd h (hk _)
  rename_i h4
  rw [if_neg h4]
  split at h
  · exact absurd h (hk _)
  rename_i h5
  rw [if_neg h5]
  split at h
  · cases h
  rename_i h6
  rw [if_neg h6]
  split at h
  · rename_i h7
    rw [if_pos h7]
  rename_i h7
  rw [if_neg h7]
  split at h
  · exfalso
    have h' : dKind (gClass (gFirst s).1) = 5 := h
    unfold dKind at h'
    split at h'
    · cases h'
    split at h'
    · cases h'
    split at h' <;> cases h'
  · cases h
theorem line_name {s : ByteArray} (hs : 0 < s.size) : dFirst s = ⟨5, s, noText⟩ ↔ (dLine s).length = 1 ∧ (dFirst s).kind = 5 := by
  constructor
  · intro h
    have h1 : dLine s = [dFirst s] := by
      have := line_first_only (x := ⟨5, s, noText⟩) h.symm hs
      rw [h]
      exact this
    exact ⟨by rw [h1]; rfl, by rw [h]⟩
  · rintro ⟨h1, h2⟩
    rw [dLine_cons hs] at h1
    have hr : dLine (restOf s) = [] := List.eq_nil_of_length_eq_zero (by simpa using h1)
    have he : restOf s = noText := Classical.byContradiction fun h => by
      rw [dLine_cons (size_pos h)] at hr
      cases hr
    have ht := first_rest hs
    rw [he] at ht
    have ht2 : (dFirst s).text = s := by
      have e : (dFirst s).text ++ noText = (dFirst s).text := bytes_eq (by rw [bytes_app]; show _ ++ [] = _; rw [List.append_nil])
      rw [e] at ht
      exact ht
    have hg := first_name h2
    cases hd : dFirst s with
    | mk k t g =>
      rw [hd] at h2 ht2 hg
      simp only at h2 ht2 hg
      rw [h2, ht2, hg]
end Go.Proofs.YtflpihedhccdfaaGreatDoor
