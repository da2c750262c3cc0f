/-
  The document's glyphs and tokens, plainly. No program here.
-/
import Derived.Test.YteojnejomgomjaaDoorReg
import Derived.WalkKit
set_option linter.unusedSimpArgs false
set_option linter.unusedVariables false
namespace Go.Proofs.YteojnejomgomjaaDoor
open Go.RowKit

structure Tok where
  kind : Int
  text : ByteArray
  glyph : ByteArray
deriving DecidableEq

theorem bytes_app (a b : ByteArray) : (a ++ b).data.toList = a.data.toList ++ b.data.toList := by
  rw [ByteArray.data_append]; exact Array.toList_append
theorem bytes_ext (s : ByteArray) (a b : Nat) : (s.extract a b).data.toList = (s.data.toList.drop a).take (b - a) := by
  rw [ByteArray.data_extract]
  simp [List.extract_eq_take_drop]
theorem bytes_eq {a b : ByteArray} (h : a.data.toList = b.data.toList) : a = b := by
  obtain ⟨⟨x⟩⟩ := a; obtain ⟨⟨y⟩⟩ := b; simp at h; rw [h]
theorem bytes_len (s : ByteArray) : s.data.toList.length = s.size := rfl
theorem empty_is {u : ByteArray} (h : u.size = 0) : u.toList.isEmpty = true := by
  rw [ByteArray.toList_eq]
  have : u.data.toList.length = 0 := by rw [bytes_len]; exact h
  rw [List.length_eq_zero_iff.1 this]
  rfl
theorem empty_not {u : ByteArray} (h : 0 < u.size) : u.toList.isEmpty = false := by
  rw [ByteArray.toList_eq]
  have : u.data.toList.length = u.size := bytes_len u
  cases hl : u.data.toList with
  | nil => rw [hl] at this; simp at this; omega
  | cons a l => rfl

/-! ### Glyphs -/
structure Gly where
  glyph : ByteArray
  letter : ByteArray
  cls : Int

def gly (g : Array UInt8) (l : Array UInt8) (c : Int) : Gly := ⟨⟨g⟩, ⟨l⟩, c⟩
def glyphs : List Gly := [
  gly #[43] #[] 1,
  gly #[45] #[] 1,
  gly #[195, 151] #[120] 1,
  gly #[195, 183] #[100] 1,
  gly #[226, 140, 136] #[117] 1,
  gly #[226, 140, 138] #[110] 1,
  gly #[124] #[] 1,
  gly #[61] #[] 1,
  gly #[226, 137, 160] #[113] 1,
  gly #[60] #[] 1,
  gly #[62] #[] 1,
  gly #[226, 137, 164] #[108] 1,
  gly #[226, 137, 165] #[103] 1,
  gly #[226, 136, 167] #[97] 1,
  gly #[226, 136, 168] #[111] 1,
  gly #[126] #[] 1,
  gly #[226, 141, 180] #[114] 1,
  gly #[226, 141, 179] #[105] 1,
  gly #[44] #[] 1,
  gly #[226, 140, 189] #[116] 1,
  gly #[226, 134, 145] #[107] 1,
  gly #[226, 134, 147] #[106] 1,
  gly #[226, 137, 162] #[109] 1,
  gly #[47] #[] 2,
  gly #[92] #[] 2,
  gly #[194, 168] #[101] 2,
  gly #[226, 141, 168] #[99] 2,
  gly #[226, 134, 144] #[115] 3,
  gly #[226, 139, 132] #[122] 3,
  gly #[58] #[] 3,
  gly #[123] #[] 3,
  gly #[125] #[] 3,
  gly #[40] #[] 3,
  gly #[41] #[] 3,
  gly #[226, 141, 186] #[112] 4,
  gly #[226, 141, 181] #[119] 4,
  gly #[194, 175] #[104] 5,
  gly #[226, 141, 157] #[98] 6]

/-- Does a text begin with another one? -/
def begins (s t : ByteArray) : Bool := decide (t.size ≤ s.size) && decide (s.extract 0 t.size = t)
def tick (l : ByteArray) : ByteArray := ⟨#[96]⟩ ++ l
def firstIn (s : ByteArray) : List Gly → ByteArray × Nat
  | [] => (ByteArray.empty, 0)
  | x :: l => if begins s x.glyph = true then (x.glyph, x.glyph.size) else if x.letter ≠ ByteArray.empty ∧ begins s (tick x.letter) = true then (x.glyph, 2) else firstIn s l
def gFirst (s : ByteArray) : ByteArray × Nat := firstIn s glyphs
def classIn (g : ByteArray) : List Gly → Int
  | [] => 0
  | x :: l => if x.glyph = g then x.cls else classIn g l
def gClass (g : ByteArray) : Int := classIn g glyphs

/-! ### Runs of bytes -/
def isBlank (c : UInt8) : Bool := c == 32 || c == 9
def isDig (c : UInt8) : Bool := decide (48 ≤ c.toNat) && decide (c.toNat ≤ 57)
def isLet (c : UInt8) : Bool := (decide (97 ≤ c.toNat) && decide (c.toNat ≤ 122)) || ((decide (65 ≤ c.toNat) && decide (c.toNat ≤ 90)) || c == 95)
def many (p : UInt8 → Bool) (l : List UInt8) : Nat := (l.takeWhile p).length
def dBlanks (s : ByteArray) : Nat := many isBlank s.data.toList
def dDigits (s : ByteArray) : Nat := many isDig s.data.toList
def wordL : List UInt8 → Nat
  | [] => 0
  | c :: l => if isLet c = true then many (fun c => isLet c || isDig c) l + 1 else 0
def dWord (s : ByteArray) : Nat := wordL s.data.toList
/-- How many bytes a text in quotes has, from place i on. -/
def quoGo : List UInt8 → Nat → Nat
  | [], _ => 0
  | c :: l, i => if c ≠ 39 then quoGo l (i + 1) else match l with | [] => i + 1 | d :: r => if d ≠ 39 then i + 1 else quoGo r (i + 2)
def dQuoted (s : ByteArray) : Nat := quoGo (s.data.toList.drop 1) 1

/-! ### Tokens -/
def noText : ByteArray := ByteArray.empty
/-- Without the noughts ahead. -/
def noughts : List UInt8 → List UInt8
  | 48 :: c :: l => noughts (c :: l)
  | l => l
def dNumber (s : ByteArray) (n : Nat) : Tok :=
  let k := dDigits (s.extract n s.size)
  if 18 < k ∨ k = 0 then ⟨10, s.extract 0 (n + k), noText⟩ else
  let d : ByteArray := ⟨(noughts (s.extract n (n + k)).data.toList).toArray⟩
  ⟨3, s.extract 0 (n + k), if 0 < n ∧ d ≠ ⟨#[48]⟩ then ⟨#[194, 175]⟩ ++ d else d⟩
def dKind (c : Int) : Int := if c = 1 then 6 else if c = 2 then 7 else if c = 3 then 8 else 9
/-- The first byte. -/
def byte0 (s : ByteArray) : Nat := (s.data.toList.headD 0).toNat
/-- How many bytes the rune has that a text begins with. -/
def dStep (s : ByteArray) : Nat := (Utf8.decode s 0).2
/-- The first token of a text that is not empty. -/
def dFirst (s : ByteArray) : Tok :=
  if 0 < dBlanks s then ⟨1, s.extract 0 (dBlanks s), noText⟩ else
  if gClass (gFirst s).1 = 6 then ⟨2, s, (gFirst s).1⟩ else
  if byte0 s = 39 then (if dQuoted s = 0 then ⟨10, s, noText⟩ else ⟨4, s.extract 0 (dQuoted s), noText⟩) else
  if gClass (gFirst s).1 = 5 then dNumber s (gFirst s).2 else
  if 48 ≤ byte0 s ∧ byte0 s ≤ 57 then dNumber s 0 else
  if 20 < dWord s then ⟨10, s.extract 0 (dWord s), noText⟩ else
  if 0 < dWord s then ⟨5, s.extract 0 (dWord s), noText⟩ else
  if 0 < (gFirst s).2 then ⟨dKind (gClass (gFirst s).1), s.extract 0 (gFirst s).2, (gFirst s).1⟩ else
  ⟨10, s.extract 0 (dStep s), noText⟩
def dLineGo : Nat → ByteArray → List Tok
  | 0, _ => []
  | k + 1, s => if s = noText then [] else dFirst s :: dLineGo k (s.extract (dFirst s).text.size s.size)
def dLine (s : ByteArray) : List Tok := dLineGo s.size s

/-- The text that the statements of layer 4 show. -/
def shownText : ByteArray := ⟨#[97, 226, 134, 144, 194, 175, 48, 55, 32, 226, 141, 157, 32, 120]⟩
def shownL : List Tok := [⟨5, ⟨#[97]⟩, noText⟩, ⟨8, ⟨#[226, 134, 144]⟩, ⟨#[226, 134, 144]⟩⟩, ⟨3, ⟨#[194, 175, 48, 55]⟩, ⟨#[194, 175, 55]⟩⟩, ⟨1, ⟨#[32]⟩, noText⟩, ⟨2, ⟨#[226, 141, 157, 32, 120]⟩, ⟨#[226, 141, 157]⟩⟩]
theorem shown_line : dLine shownText = shownL := by decide +kernel
end Go.Proofs.YteojnejomgomjaaDoor
