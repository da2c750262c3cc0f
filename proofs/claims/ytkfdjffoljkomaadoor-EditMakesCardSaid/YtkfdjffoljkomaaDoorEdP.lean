/-
  Plain words of layer 16: edits as data, which are a text's, what they make of it. No program here.
-/
import Derived.Below
import Derived.Laws.OwnMore
import Derived.Deep.Draws
import Derived.Deep.AppendLies
set_option linter.unusedSimpArgs false
set_option linter.unusedVariables false
namespace Go.Proofs.YtkfdjffoljkomaaDoor
open Go.RowKit

/-- One edit, as data. -/
structure Ed where
  pos : Int
  n : Int
  s : ByteArray
deriving DecidableEq

/-- Its cells. -/
def Ed.cells (x : Ed) : List Value := [.int .i64 x.pos, .int .i64 x.n, .string x.s]

theorem addr_block (a : Addr) (n : Nat) : (a.add n).block = a.block := by unfold Addr.add; split <;> rfl

/-- The slice value '.slice A n c' holds, in w, the edits l. -/
def Holds (w : World) (A : Option Addr) (l : List Ed) : Prop :=
  ∀ (k : Nat) (x : Ed), l[k]? = some x → ∃ b off, A = some ⟨b, off, none⟩ ∧ w.cell? ⟨b, off + k * 3, none⟩ = some (.int .i64 x.pos) ∧
    w.cell? ⟨b, off + k * 3 + 1, none⟩ = some (.int .i64 x.n) ∧ w.cell? ⟨b, off + k * 3 + 2, none⟩ = some (.string x.s)

theorem cell_lt {w : World} {p : Addr} {v : Value} (h : w.cell? p = some v) : p.block < w.heap.size := by
  rcases Nat.lt_or_ge p.block w.heap.size with h1 | h1
  · exact h1
  · simp [World.cell?, Array.getElem?_eq_none h1] at h

theorem Holds.below {w w' : World} {A : Option Addr} {l : List Ed} (h : Holds w A l) (hb : Below w.heap.size w w') : Holds w' A l := fun k x hx => by
  obtain ⟨b, off, e, h1, h2, h3⟩ := h k x hx
  have hl : b < w.heap.size := cell_lt h1
  exact ⟨b, off, e, (hb.cell (p := ⟨b, _, none⟩) hl).trans h1, (hb.cell (p := ⟨b, _, none⟩) hl).trans h2, (hb.cell (p := ⟨b, _, none⟩) hl).trans h3⟩

theorem Holds.drewN {w : World} {A : Option Addr} {l : List Ed} (h : Holds w A l) (n : Nat) : Holds (w.drewN n) A l := h

theorem Holds.nil (w : World) (A : Option Addr) : Holds w A [] := fun k x hx => by simp at hx

/-- Numbers and texts that no sum of this layer carries too far. -/
def Ed.mild (x : Ed) : Prop := -1000000 ≤ x.pos ∧ x.pos ≤ 1000000 ∧ -1000000 ≤ x.n ∧ x.n ≤ 1000000 ∧ x.s.size ≤ 1000000
def mild (l : List Ed) : Prop := l.length ≤ 1000 ∧ ∀ (k : Nat) (x : Ed), l[k]? = some x → x.mild

/-- Which edits are a text's of n bytes, from 'e' on. -/
def right (n : Int) : Int → List Ed → Bool
  | _, [] => true
  | e, x :: l => !(decide (x.pos < e)) && !(decide (n < x.pos)) && !(decide (x.n < 0)) && !(decide (n - x.pos < x.n)) && right n (x.pos + x.n) l

/-- What the first edits move a place by. -/
def moved1 (p : Int) (x : Ed) : Int := if x.pos + x.n ≤ p then (x.s.size : Int) - x.n else 0
def moved (p : Int) : List Ed → Int
  | [] => 0
  | x :: l => moved1 p x + moved p l

theorem moved_append (p : Int) (l m : List Ed) : moved p (l ++ m) = moved p l + moved p m := by
  induction l with
  | nil => simp [moved]
  | cons x l ih => simp [moved, ih]; omega

theorem moved_succ (p : Int) (l : List Ed) (k : Nat) (h : k < l.length) : moved p (l.take (k + 1)) = moved p (l.take k) + moved1 p l[k] := by
  rw [List.take_succ_eq_append_getElem h, moved_append]; simp [moved]

theorem moved_bd (p : Int) (l : List Ed) (hl : ∀ (k : Nat) (x : Ed), l[k]? = some x → x.mild) (k : Nat) (hk : k ≤ l.length) : -(2000000 * (k : Int)) ≤ moved p (l.take k) ∧ moved p (l.take k) ≤ 2000000 * (k : Int) := by
  induction k with
  | zero => simp [moved]
  | succ k ih =>
    have h1 := ih (by omega)
    rw [moved_succ p l k (by omega)]
    have h2 := hl k _ (List.getElem?_eq_getElem (by omega))
    unfold Ed.mild at h2
    unfold moved1
    split <;> omega

/-- What edits make of a text, from place e on. -/
def applyL (s : List UInt8) : Nat → List Ed → List UInt8
  | e, [] => s.drop e
  | e, x :: l => (s.drop e).take (x.pos.toNat - e) ++ (x.s.data.toList ++ applyL s (x.pos + x.n).toNat l)

/-- The text that they make. -/
def applied (s : ByteArray) (l : List Ed) : ByteArray := ⟨(applyL s.data.toList 0 l).toArray⟩

theorem right_cons {n e : Int} {x : Ed} {l : List Ed} : right n e (x :: l) = true ↔ e ≤ x.pos ∧ x.pos ≤ n ∧ 0 ≤ x.n ∧ x.n ≤ n - x.pos ∧ right n (x.pos + x.n) l = true := by
  simp only [right, Bool.and_eq_true, Bool.not_eq_true', decide_eq_false_iff_not, Int.not_lt, and_assoc]

theorem bytes_app (a b : ByteArray) : (a ++ b).data.toList = a.data.toList ++ b.data.toList := by
  rw [ByteArray.data_append]; exact Array.toList_append
theorem bytes_ext (s : ByteArray) (a b : Nat) : (s.extract a b).data.toList = (s.data.toList.drop a).take (b - a) := by
  rw [ByteArray.data_extract]
  simp [List.extract_eq_take_drop]
theorem bytes_eq {a b : ByteArray} (h : a.data.toList = b.data.toList) : a = b := by
  obtain ⟨⟨x⟩⟩ := a; obtain ⟨⟨y⟩⟩ := b; simp at h; rw [h]
theorem bytes_len (s : ByteArray) : s.data.toList.length = s.size := rfl

theorem apply_step (s u : ByteArray) (x : Ed) (l : List Ed) (v p m : Nat) (hp : x.pos = p) (hm : x.n = m) (g : List UInt8) (h : u.data.toList ++ applyL s.data.toList v (x :: l) = g) :
    (u ++ s.extract v p ++ x.s).data.toList ++ applyL s.data.toList (p + m) l = g := by
  rw [← h, bytes_app, bytes_app, bytes_ext, applyL, hp, hm]
  simp only [Int.toNat_natCast, List.append_assoc]
  congr

end Go.Proofs.YtkfdjffoljkomaaDoor
