/-
  What layer 10 tells, in plain numbers; what it has laid.
-/
import Derived.Test.YtkghmcfbhojbaaaDoorNumB
import Derived.Test.YtkghmcfbhojbaaaDoorNumC
import Derived.Test.YtkghmcfbhojbaaaDoorNumD
import Derived.Test.YtkghmcfbhojbaaaDoorNumH
set_option linter.unusedSimpArgs false
set_option linter.unusedVariables false
namespace Go.Proofs.YtkghmcfbhojbaaaDoor
open Go.RowKit

/-- What the program has laid, of layer 10: two errors, a type's handle. -/
structure Laid10 (a d : Addr) (w : World) : Prop where
  over : OverAt a w
  divide : DivideAt d w
  ne : a ≠ d
  rowA : ∃ c t, w.heap[a.block]? = some (.cells c t (0, 0))
  rowD : ∃ c t, w.heap[d.block]? = some (.cells c t (0, 0))
  handle : w.cell? ⟨2, 0, none⟩ = some (.iface 86 (.agg #[.pointer (some ⟨3, 41, none⟩)]))

theorem row_lt {w : World} {b : Nat} {o : Obj} (h : w.heap[b]? = some o) : b < w.heap.size := (Array.getElem?_eq_some_iff.1 h).1

theorem Laid10.below {a d : Addr} {w w' : World} (h : Laid10 a d w) (hb : Below w.heap.size w w') : Laid10 a d w' where
  over := h.over.below hb
  divide := h.divide.below hb
  ne := h.ne
  rowA := by obtain ⟨c, t, e⟩ := h.rowA; exact ⟨c, t, (hb.block _ (row_lt e)).trans e⟩
  rowD := by obtain ⟨c, t, e⟩ := h.rowD; exact ⟨c, t, (hb.block _ (row_lt e)).trans e⟩
  handle := (hb.cell (p := ⟨2, 0, none⟩) (cell_lt h.handle)).trans h.handle

/-- The error of a code. -/
def errV (a d : Addr) (g : ByteArray) (c : Int) : Value :=
  if c = 0 then .nilIface else if c = 100 then overV a else if c = 101 then overV d else .iface 39 (.agg #[.string g])

def Code (c : Int) : Prop := c = 0 ∨ c = 100 ∨ c = 101 ∨ c = 102

def fits (n : Int) : Bool := decide (-9223372036854775808 ≤ n) && decide (n ≤ 9223372036854775807)
def orOver (n : Int) : Int × Int := if fits n then (n, 0) else (0, 100)
def divOut (x y : Int) : Int × Int := if y = 0 then (if x = 0 then (1, 0) else (0, 101)) else if y = -1 then orOver (-x) else if x.tmod y = 0 then (x.tdiv y, 0) else (0, 101)
def cmpOut (g : ByteArray) (x y : Int) : Int :=
  if g = gEq then bit (decide (x = y)) else if g = gNe then bit (decide (x ≠ y)) else if g = gLt then bit (decide (x < y)) else if g = gGt then bit (decide (y < x)) else if g = gLe then bit (decide (x ≤ y)) else bit (decide (y ≤ x))
def bits01 (x y : Int) : Bool := decide (x = 0 ∨ x = 1) && decide (y = 0 ∨ y = 1)
def logOut (g : ByteArray) (x y : Int) : Int × Int := if bits01 x y then (if g = gAnd then min x y else max x y, 0) else (0, 102)
/-- A function of two: its number, its code. -/
def dyOut (g : ByteArray) (x y : Int) : Int × Int :=
  if g = gAdd then orOver (x + y) else if g = gTake then orOver (x - y) else if g = gTimes then orOver (x * y) else if g = gDiv then divOut x y else
  if g = gRes then (resid x y, 0) else if g = gHi then (max x y, 0) else if g = gLo then (min x y, 0) else if g = gEq ∨ g = gNe ∨ g = gLt ∨ g = gGt ∨ g = gLe ∨ g = gGe then (cmpOut g x y, 0) else if g = gAnd ∨ g = gOr then logOut g x y else (0, 102)
def gNot : ByteArray := ⟨#[126]⟩
/-- A function of one. -/
def monOut (g : ByteArray) (y : Int) : Int × Int :=
  if g = gAdd ∨ g = gHi ∨ g = gLo then (y, 0) else if g = gTake then orOver (-y) else if g = gTimes then (bit (decide (0 < y)) - bit (decide (y < 0)), 0) else if g = gDiv then divOut 1 y else
  if g = gNot then (if y = 0 ∨ y = 1 then (1 - y, 0) else (0, 102)) else if g = gRes then (if y < 0 then orOver (-y) else (y, 0)) else (0, 102)
/-- What changes nothing. -/
def unitOut (g : ByteArray) : Int × Bool := if g = gTimes ∨ g = gAnd then (1, true) else (0, decide (g = gAdd ∨ g = gOr))
def dyGlyphs : List ByteArray := [gAdd, gTake, gTimes, gDiv, gHi, gLo, gRes, gEq, gNe, gLt, gGt, gLe, gGe, gAnd, gOr]
def monGlyphs : List ByteArray := [gAdd, gTake, gTimes, gDiv, gHi, gLo, gRes, gNot]

theorem fits_iff {n : Int} : fits n = true ↔ -9223372036854775808 ≤ n ∧ n ≤ 9223372036854775807 := by simp [fits]
theorem fits_no {n : Int} : fits n = false ↔ ¬ (-9223372036854775808 ≤ n ∧ n ≤ 9223372036854775807) := by rw [← fits_iff]; simp

theorem orOver_code (n : Int) : Code (orOver n).2 := by unfold orOver Code; split <;> simp
theorem divOut_code (x y : Int) : Code (divOut x y).2 := by
  unfold divOut
  split
  · split <;> simp [Code]
  · split
    · exact orOver_code _
    · split <;> simp [Code]
theorem logOut_code (g : ByteArray) (x y : Int) : Code (logOut g x y).2 := by unfold logOut Code; split <;> simp
theorem dyOut_code (g : ByteArray) (x y : Int) : Code (dyOut g x y).2 := by
  unfold dyOut
  repeat (first | exact orOver_code _ | exact divOut_code _ _ | exact logOut_code _ _ _ | (exact Or.inl rfl) | (exact Or.inr (Or.inr (Or.inr rfl))) | split)
theorem monOut_code (g : ByteArray) (y : Int) : Code (monOut g y).2 := by
  unfold monOut
  repeat (first | exact orOver_code _ | exact divOut_code _ _ | (exact Or.inl rfl) | (exact Or.inr (Or.inr (Or.inr rfl))) | split)

/-- A number is told, or the error that it is too great. -/
theorem must_over (a d : Addr) (g : ByteArray) (n m : Int) (ok : Bool) (h : ok = fits n) (hm : fits n = true → m = n) :
    mustOut m (overV a) ok = .tuple #[.int .i64 (orOver n).1, errV a d g (orOver n).2] := by
  subst h
  unfold mustOut orOver
  cases hf : fits n with
  | true => simp [errV, hm hf]
  | false => simp [errV]

theorem wrap_i64 (n : Int) : IntKind.i64.wrap n = wrap64 n := by simp [IntWalk.i64_left]

theorem ok_add (x y : Int) (hx : fits x = true) (hy : fits y = true) : okAdd x y (IntKind.i64.wrap (x + y)) = fits (x + y) ∧ (fits (x + y) = true → IntKind.i64.wrap (x + y) = x + y) := by
  rw [fits_iff] at hx hy
  have hw : IntKind.i64.wrap (x + y) = if x + y < -9223372036854775808 then x + y + 18446744073709551616 else if x + y > 9223372036854775807 then x + y - 18446744073709551616 else x + y := by
    rw [wrap_i64]; unfold wrap64; split
    · omega
    · split <;> omega
  rw [hw]
  constructor
  · unfold okAdd
    rw [Bool.eq_iff_iff, fits_iff]
    split <;> (try split) <;> by_cases h1 : x < 0 <;> by_cases h2 : y < 0 <;> simp [h1, h2] <;> omega
  · rw [fits_iff]
    intro h
    split <;> (try split) <;> omega
theorem ok_take (x y : Int) (hx : fits x = true) (hy : fits y = true) : okTake x y (IntKind.i64.wrap (x - y)) = fits (x - y) ∧ (fits (x - y) = true → IntKind.i64.wrap (x - y) = x - y) := by
  rw [fits_iff] at hx hy
  have hw : IntKind.i64.wrap (x - y) = if x - y < -9223372036854775808 then x - y + 18446744073709551616 else if x - y > 9223372036854775807 then x - y - 18446744073709551616 else x - y := by
    rw [wrap_i64]; unfold wrap64; split
    · omega
    · split <;> omega
  rw [hw]
  constructor
  · unfold okTake
    rw [Bool.eq_iff_iff, fits_iff]
    split <;> (try split) <;> by_cases h1 : x < 0 <;> by_cases h2 : y < 0 <;> simp [h1, h2] <;> omega
  · rw [fits_iff]
    intro h
    split <;> (try split) <;> omega
end Go.Proofs.YtkghmcfbhojbaaaDoor
