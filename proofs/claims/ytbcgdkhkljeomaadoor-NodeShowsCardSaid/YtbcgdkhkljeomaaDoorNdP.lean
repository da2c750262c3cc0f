/-
  Trees of nodes, plainly: which nodes are a tree, their show, how deep, which the same, joined trees, kids. No program here.
-/
import Derived.Test.YtbcgdkhkljeomaaDoorProg
import Derived.WalkKit
import Derived.Test.YtbcgdkhkljeomaaDoorBytes
set_option linter.unusedSimpArgs false
set_option linter.unusedVariables false
namespace Go.Proofs.YtbcgdkhkljeomaaDoor
open Go.RowKit

structure Nd where
  kind : Int
  text : ByteArray
  kids : List Int
deriving DecidableEq

/-- What a node of a kind has: how many kids, at least and at most, and whether a text. -/
def formAt (k : Int) : Option (Nat × Nat × Bool) :=
  if k = 11 then some (1, 1048576, false) else
  if k = 7 then some (3, 3, false) else
  if k = 12 then some (2, 2, false) else
  if k = 6 then some (2, 2, false) else
  if k = 10 then some (1, 1, true) else
  if k = 8 then some (1, 1, true) else
  if k = 5 then some (1, 1, false) else
  if k = 13 then some (0, 0, true) else
  if k = 14 then some (0, 0, true) else
  if k = 9 then some (0, 0, true) else
  if k = 4 then some (0, 0, true) else
  if k = 3 then some (0, 0, true) else
  if k = 2 then some (0, 0, true) else
  if k = 1 then some (0, 0, true) else none
def formOk (x : Nd) : Bool := match formAt x.kind with
  | none => false
  | some (a, b, h) => decide (a ≤ x.kids.length) && decide (x.kids.length ≤ b) && (decide (0 < x.text.size) == h)

def kidsOk (i : Int) : Int → List Int → Bool
  | _, [] => true
  | last, k :: ks => decide (last < k) && decide (k < i) && kidsOk i k ks
def nodesOk : Int → List Nd → Bool
  | _, [] => true
  | i, x :: t => kidsOk i (-1) x.kids && formOk x && nodesOk (i + 1) t
def kidsAll (t : List Nd) : List Int := t.flatMap (·.kids)
/-- Are these nodes a tree? -/
def rightN (t : List Nd) : Bool :=
  decide (1 ≤ t.length) && decide (t.length ≤ 400) && nodesOk 0 t && (List.range (t.length - 1)).all fun j => (kidsAll t).count (j : Int) == 1

/-! ### A node's show, how deep it is, where its tree begins: by so many steps -/
def hexOf (n : Nat) : UInt8 := if n < 10 then UInt8.ofNat (48 + n) else UInt8.ofNat (87 + n)
def wordOf (s : List UInt8) : List UInt8 := s.flatMap fun c =>
  if c < 0x21 || c > 0x7e || c == 37 || c == 40 || c == 41 || c == 58 then [37, hexOf (c.toNat / 16), hexOf (c.toNat % 16)] else [c]
def digitsOf (n : Int) : List UInt8 := if n > 9 then [49, UInt8.ofNat (48 + (n % 10).toNat)] else [UInt8.ofNat (48 + n.toNat)]
def nodeAt (t : List Nd) (i : Nat) : Nd := t.getD i ⟨0, ByteArray.empty, []⟩
def showF (t : List Nd) : Nat → Nat → List UInt8
  | 0, _ => []
  | f + 1, i =>
    let x := nodeAt t i
    let s := digitsOf x.kind ++ 58 :: wordOf x.text.data.toList
    if x.kids = [] then s else 40 :: (s ++ x.kids.flatMap (fun k => 32 :: showF t f k.toNat) ++ [41])
def showAt (t : List Nd) (i : Nat) : List UInt8 := showF t (i + 1) i
def deepF (t : List Nd) : Nat → Nat → Nat
  | 0, _ => 0
  | f + 1, i => (nodeAt t i).kids.foldl (fun n k => max n (deepF t f k.toNat)) 0 + 1
def deepAt (t : List Nd) (i : Nat) : Nat := deepF t (i + 1) i
def firstF (t : List Nd) : Nat → Nat → Nat
  | 0, i => i
  | f + 1, i => (nodeAt t i).kids.foldl (fun n k => min n (firstF t f k.toNat)) i
def firstAt (t : List Nd) (i : Nat) : Nat := firstF t (i + 1) i
/-- The places of a node's tree, its own last. -/
def placesF (t : List Nd) : Nat → Nat → List Nat
  | 0, i => [i]
  | f + 1, i => (nodeAt t i).kids.flatMap (fun k => placesF t f k.toNat) ++ [i]

def showN (t : List Nd) : ByteArray := if rightN t then ⟨(showAt t (t.length - 1)).toArray⟩ else ByteArray.empty
def deepN (t : List Nd) : Nat := if rightN t then deepAt t (t.length - 1) else 0

/-! ### Joined, taken out -/
def movedN (by_ : Int) (t : List Nd) : List Nd := t.map fun x => { x with kids := x.kids.map (· + by_) }
/-- Trees behind nodes; the places of their last ones. -/
def joinGo : List Nd → List Int → List (List Nd) → Option (List Nd × List Int)
  | out, ks, [] => some (out, ks)
  | out, ks, t :: l => if rightN t then joinGo (out ++ movedN out.length t) (ks ++ [((out ++ movedN out.length t).length : Int) - 1]) l else none
def joinN (kind : Int) (text : ByteArray) (l : List (List Nd)) : Option (List Nd) := match joinGo [] [] l with
  | none => none
  | some (out, ks) => if rightN (out ++ [⟨kind, text, ks⟩]) then some (out ++ [⟨kind, text, ks⟩]) else none
def rootKids (t : List Nd) : List Int := (nodeAt t (t.length - 1)).kids
def kidOf (t : List Nd) (n : Nat) : List Nd :=
  let at_ := ((rootKids t).getD n 0).toNat
  movedN (-(firstAt t at_ : Int)) ((t.drop (firstAt t at_)).take (at_ + 1 - firstAt t at_))
def kidN (t : List Nd) (n : Int) : Option (List Nd) :=
  if rightN t = true ∧ 0 ≤ n ∧ n < (rootKids t).length then (if rightN (kidOf t n.toNat) then some (kidOf t n.toNat) else none) else none

/-! ### Kids' places -/
theorem kidsOk_mem {i : Int} : ∀ {last : Int} {ks : List Int}, kidsOk i last ks = true → ∀ k ∈ ks, last < k ∧ k < i
  | last, [], _, k, hk => by simp at hk
  | last, c :: ks, h, k, hk => by
    simp only [kidsOk, Bool.and_eq_true, decide_eq_true_eq] at h
    obtain ⟨⟨h1, h2⟩, h3⟩ := h
    rcases List.mem_cons.1 hk with rfl | hk
    · exact ⟨h1, h2⟩
    · have := kidsOk_mem h3 k hk
      exact ⟨by omega, this.2⟩
theorem nodesOk_at : ∀ {t : List Nd} {i : Int} {j : Nat} {x : Nd}, nodesOk i t = true → t[j]? = some x → kidsOk (i + j) (-1) x.kids = true ∧ formOk x = true
  | [], i, j, x, h, hx => by simp at hx
  | y :: t, i, 0, x, h, hx => by
    simp at hx
    subst hx
    simp only [nodesOk, Bool.and_eq_true] at h
    exact ⟨by simpa using h.1.1, h.1.2⟩
  | y :: t, i, j + 1, x, h, hx => by
    simp only [nodesOk, Bool.and_eq_true] at h
    have := nodesOk_at (j := j) h.2 (by simpa using hx)
    refine ⟨?_, this.2⟩
    have e : i + ((j + 1 : Nat) : Int) = i + 1 + (j : Int) := by omega
    rw [e]
    exact this.1
theorem rightN_parts {t : List Nd} (h : rightN t = true) : 1 ≤ t.length ∧ t.length ≤ 400 ∧ nodesOk 0 t = true ∧ ∀ j, j + 1 < t.length → (kidsAll t).count (j : Int) = 1 := by
  unfold rightN at h
  simp only [Bool.and_eq_true, decide_eq_true_eq, List.all_eq_true, List.mem_range, beq_iff_eq] at h
  exact ⟨h.1.1.1, h.1.1.2, h.1.2, fun j hj => h.2 j (by omega)⟩
theorem nodeAt_some {t : List Nd} {i : Nat} {x : Nd} (h : t[i]? = some x) : nodeAt t i = x := by simp [nodeAt, h]
end Go.Proofs.YtbcgdkhkljeomaaDoor
