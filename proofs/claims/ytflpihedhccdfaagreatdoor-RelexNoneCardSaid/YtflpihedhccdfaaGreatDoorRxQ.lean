/-
  A splice, as the document tells it, and what the laws of layer 5 say of it, plainly. No program here.
-/
import Derived.Test.YtflpihedhccdfaaGreatDoorRxP
import Derived.Test.YtflpihedhccdfaaGreatDoorLxM1
set_option linter.unusedSimpArgs false
set_option linter.unusedVariables false
namespace Go.Proofs.YtflpihedhccdfaaGreatDoor
open Go.RowKit

structure Chg where
  fro : Nat
  old : Nat
  new : Nat
  deriving DecidableEq
def noChg : Chg := ⟨0, 0, 0⟩

/-- Is a splice right: 0 (it is), 10 (out of range), 11 (too long). -/
def errS (t : ByteArray) (p n : Int) (s : ByteArray) : Int :=
  if p < 0 ∨ p > t.size ∨ n < 0 ∨ n > t.size - p then 10 else if (t.size : Int) - n + s.size > 4000 then 11 else 0
def putS (t : ByteArray) (p n : Nat) (s : ByteArray) : ByteArray := toB (t.data.toList.take p ++ s.data.toList ++ t.data.toList.drop (p + n))
def chgS (t : ByteArray) (p n : Nat) (s : ByteArray) : Chg :=
  ⟨(foundL t.data.toList p).1, (foundL t.data.toList (p + n)).1 - (foundL t.data.toList p).1 + 1, (piecesB s).length⟩
/-- The text behind a splice, the change. -/
def textS (t : ByteArray) (p n : Int) (s : ByteArray) : ByteArray := if errS t p n s = 0 then putS t p.toNat n.toNat s else t
def doneS (t : ByteArray) (p n : Int) (s : ByteArray) : Chg := if errS t p n s = 0 then chgS t p.toNat n.toNat s else noChg

theorem err_right {t s : ByteArray} {p n : Int} (h : errS t p n s = 0) : 0 ≤ p ∧ 0 ≤ n ∧ p + n ≤ t.size ∧ (t.size : Int) - n + s.size ≤ 4000 := by
  unfold errS at h
  split at h
  · cases h
  · split at h
    · cases h
    · omega
theorem putS_size {t s : ByteArray} {p n : Nat} (h : p + n ≤ t.size) : (putS t p n s).size = t.size - n + s.size := by
  unfold putS
  rw [toB_size]
  simp only [List.length_append, List.length_take, List.length_drop, bytes_len]
  omega
theorem textS_size {t s : ByteArray} {p n : Int} (h : t.size ≤ 4000) : (textS t p n s).size ≤ 4000 := by
  unfold textS
  split
  · rename_i he
    obtain ⟨h1, h2, h3, h4⟩ := err_right he
    rw [putS_size (by omega)]
    omega
  · exact h

/-- A splice's parts: lines ahead, the line it begins in, the line it ends in, lines behind. -/
theorem splice_parts {t s : ByteArray} {p n : Nat} (h : p + n ≤ t.size) :
    ∃ (xs zs ws ys : List (List UInt8)) (y z : List UInt8) (b e : Nat),
      InLine (linesL t.data.toList) p (foundL t.data.toList p).1 b xs y ys ∧ b = (foundL t.data.toList p).2 ∧
      InLine (linesL t.data.toList) (p + n) (foundL t.data.toList (p + n)).1 e zs z ws ∧ e = (foundL t.data.toList (p + n)).2 ∧
      (foundL t.data.toList p).1 ≤ (foundL t.data.toList (p + n)).1 ∧
      linesL (putS t p n s).data.toList = xs ++ linesL (y.take (p - b) ++ s.data.toList ++ z.drop (p + n - e)) ++ ws ∧
      (linesL (y.take (p - b) ++ s.data.toList ++ z.drop (p + n - e))).length = (piecesB s).length := by
  obtain ⟨xs, y, ys, h1⟩ := found_in t.data.toList p (by rw [bytes_len]; omega)
  obtain ⟨zs, z, ws, h2⟩ := found_in t.data.toList (p + n) (by rw [bytes_len]; omega)
  refine ⟨xs, zs, ws, ys, y, z, _, _, h1, rfl, h2, rfl, find_mono p (p + n) (by omega) _ _ _ _ _ _ (Nat.le_refl _) (Nat.le_refl _) (Nat.le_refl _), splice_lines h1 h2, ?_⟩
  rw [splice_len h1 h2]
  unfold piecesB
  rw [List.length_map, lines_len]

theorem inline_get {ls : List (List UInt8)} {p n b : Nat} {xs ys : List (List UInt8)} {y : List UInt8} (h : InLine ls p n b xs y ys) : ls[n]? = some y ∧ ls.take n = xs ∧ ls.drop (n + 1) = ys ∧ n < ls.length := by
  have e := h.is
  have hn := h.num
  subst hn
  subst e
  refine ⟨by simp, by simp, ?_, by simp⟩
  rw [List.drop_append, List.drop_of_length_le (by omega)]
  simp

/-- The change tells what a splice does to the lines. -/
theorem chg_lines {t s : ByteArray} {p n : Nat} (h : p + n ≤ t.size) :
    ∃ mid, mid.length = (chgS t p n s).new ∧ piecesB (putS t p n s) = (piecesB t).take (chgS t p n s).fro ++ mid ++ (piecesB t).drop ((chgS t p n s).fro + (chgS t p n s).old) ∧
      (chgS t p n s).fro + (chgS t p n s).old ≤ (piecesB t).length ∧ 1 ≤ (chgS t p n s).old ∧ 1 ≤ (chgS t p n s).new := by
  obtain ⟨xs, zs, ws, ys, y, z, b, e, h1, _, h2, _, h3, h4, h5⟩ := splice_parts (s := s) h
  obtain ⟨_, k1, _, _⟩ := inline_get h1
  obtain ⟨_, _, k2, k3⟩ := inline_get h2
  refine ⟨(linesL (y.take (p - b) ++ s.data.toList ++ z.drop (p + n - e))).map toB, by rw [List.length_map, h5]; rfl, ?_, ?_, ?_, ?_⟩
  · have e1 : (chgS t p n s).fro + (chgS t p n s).old = (foundL t.data.toList (p + n)).1 + 1 := by
      show (foundL t.data.toList p).1 + ((foundL t.data.toList (p + n)).1 - (foundL t.data.toList p).1 + 1) = _
      omega
    rw [e1]
    show (linesL (putS t p n s).data.toList).map toB = ((linesL t.data.toList).map toB).take (foundL t.data.toList p).1 ++ _ ++ ((linesL t.data.toList).map toB).drop _
    rw [h4, ← List.map_take, ← List.map_drop, k1, k2, List.map_append, List.map_append]
  · show (foundL t.data.toList p).1 + ((foundL t.data.toList (p + n)).1 - (foundL t.data.toList p).1 + 1) ≤ ((linesL t.data.toList).map toB).length
    rw [List.length_map]
    omega
  · show 1 ≤ (foundL t.data.toList (p + n)).1 - (foundL t.data.toList p).1 + 1
    omega
  · show 1 ≤ (piecesB s).length
    unfold piecesB
    rw [List.length_map, lines_len]
    omega

/-- The lines behind the change are those that were. -/
theorem chg_keeps {t s : ByteArray} {p n : Nat} (h : p + n ≤ t.size) (i : Nat) (hi : i < (piecesB t).length) :
    (i < (chgS t p n s).fro → (piecesB (putS t p n s))[i]? = (piecesB t)[i]?) ∧
    ((chgS t p n s).fro + (chgS t p n s).old ≤ i → (piecesB (putS t p n s))[i - (chgS t p n s).old + (chgS t p n s).new]? = (piecesB t)[i]?) := by
  obtain ⟨mid, h1, h2, h3, h4, h5⟩ := chg_lines (s := s) h
  generalize chgS t p n s = c at *
  rw [h2]
  constructor
  · intro hlt
    rw [List.append_assoc, List.getElem?_append_left (by rw [List.length_take]; omega), List.getElem?_take, if_pos hlt]
  · intro hge
    rw [List.getElem?_append_right (by rw [List.length_append, List.length_take]; omega), List.getElem?_drop]
    congr 1
    rw [List.length_append, List.length_take]
    omega
theorem chg_count {t s : ByteArray} {p n : Nat} (h : p + n ≤ t.size) : (piecesB (putS t p n s)).length = (piecesB t).length - (chgS t p n s).old + (chgS t p n s).new := by
  obtain ⟨mid, h1, h2, h3, h4, h5⟩ := chg_lines (s := s) h
  rw [h2]
  simp only [List.length_append, List.length_take, List.length_drop]
  omega

/-- A text's tokens: its lines', a line end between two. -/
def endT : Tok := ⟨11, nlB, ByteArray.empty⟩
def toksOf : List ByteArray → List Tok
  | [] => []
  | [p] => dLine p
  | p :: q :: ps => dLine p ++ endT :: toksOf (q :: ps)
def tokensS (t : ByteArray) : List Tok := toksOf (piecesB t)

theorem textOf_data (l : List Tok) : (textOf l).data.toList = (l.map (fun x => x.text.data.toList)).flatten := by
  have h : ∀ (l : List Tok) (b : ByteArray), (l.foldl (fun b x => b ++ x.text) b).data.toList = b.data.toList ++ (l.map (fun x => x.text.data.toList)).flatten := by
    intro l
    induction l with
    | nil => intro b; simp
    | cons x l ih => intro b; simp only [List.foldl_cons, ih, List.map_cons, List.flatten_cons, ByteArray.data_append, Array.toList_append, List.append_assoc]
  exact h l ByteArray.empty
theorem toks_text : ∀ ps : List ByteArray, (textOf (toksOf ps)).data.toList = join10 (listsOf ps)
  | [] => rfl
  | [p] => by rw [toksOf, (line_whole p.size p (Nat.le_refl _)).1]; rfl
  | p :: q :: ps => by
    have ih := toks_text (q :: ps)
    have hp := congrArg (fun b : ByteArray => b.data.toList) (line_whole p.size p (Nat.le_refl _)).1
    simp only [textOf_data] at ih hp ⊢
    simp only [toksOf, List.map_append, List.flatten_append, List.map_cons, List.flatten_cons, hp, ih]
    rfl
theorem tokens_text (t : ByteArray) : textOf (tokensS t) = t := bytes_eq (by
  unfold tokensS
  rw [toks_text, join_pieces])

end Go.Proofs.YtflpihedhccdfaaGreatDoor
