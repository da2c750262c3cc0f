/-
  Lines, plainly: the pieces of a text (the half of Edit's text that knows no edits). No program here.
-/
import Derived.Lib.SplitLaws
import Derived.Lib.IndexLaws
import Derived.Lib.IndexBytes
import Derived.Test.YtflpihedhccdfaaGreatDoorLxM1
set_option linter.unusedSimpArgs false
set_option linter.unusedVariables false
namespace Go.Proofs.YtflpihedhccdfaaGreatDoor
open Go.RowKit

def linesL : List UInt8 → List (List UInt8)
  | [] => [[]]
  | c :: l => if c = 10 then [] :: linesL l else match linesL l with | [] => [[c]] | p :: ps => (c :: p) :: ps

theorem linesL_ne (l : List UInt8) : linesL l ≠ [] := by
  cases l with
  | nil => simp [linesL]
  | cons c l =>
    simp only [linesL]
    split
    · simp
    · split <;> simp
theorem linesL_none : ∀ (l : List UInt8), (∀ c ∈ l, c ≠ 10) → linesL l = [l]
  | [], _ => rfl
  | c :: l, h => by
    have ih := linesL_none l (fun x hx => h x (List.mem_cons_of_mem _ hx))
    have hc := h c List.mem_cons_self
    simp [linesL, hc, ih]
theorem linesL_at (b : List UInt8) : ∀ (a : List UInt8), (∀ c ∈ a, c ≠ 10) → linesL (a ++ 10 :: b) = a :: linesL b
  | [], _ => by simp [linesL]
  | c :: a, h => by
    have ih := linesL_at b a (fun x hx => h x (List.mem_cons_of_mem _ hx))
    have hc := h c List.mem_cons_self
    simp [linesL, hc, ih]

theorem splitK_lines : ∀ (k : Nat) (l : List UInt8), l.count 10 = k → Lib.splitK [10] 0 k l = linesL l
  | 0, l, h => by
    rw [linesL_none l (fun c hc e => by subst e; exact (List.count_eq_zero.1 h) hc)]
    rfl
  | k + 1, l, h => by
    have hne : Lib.indexByte l 10 ≠ -1 := fun e => by
      have hm : (10 : UInt8) ∈ l := List.count_pos_iff.1 (by omega)
      obtain ⟨j, hj⟩ := List.mem_iff_getElem?.1 hm
      exact Lib.indexByte_none e j hj
    have hge := Lib.indexByte_ge l 10
    obtain ⟨o, ho⟩ : ∃ o : Nat, Lib.indexByte l 10 = o := ⟨(Lib.indexByte l 10).toNat, by omega⟩
    obtain ⟨h1, h2⟩ := Lib.indexByte_some ho
    obtain ⟨hl, hx⟩ := List.getElem?_eq_some_iff.1 h1
    have hcut : l = l.take o ++ 10 :: l.drop (o + 1) := by
      rw [← hx, ← List.drop_eq_getElem_cons hl, List.take_append_drop]
    have ha : ∀ c ∈ l.take o, c ≠ 10 := fun c hc e => by
      subst e
      obtain ⟨j, hj⟩ := List.mem_iff_getElem?.1 hc
      rw [List.getElem?_take] at hj
      split at hj
      · rename_i hjo
        exact h2 j hjo hj
      · cases hj
    have hcount : (l.drop (o + 1)).count 10 = k := by
      have e := congrArg (List.count 10) hcut
      rw [List.count_append, List.count_cons_self, List.count_eq_zero.2 (fun hm => ha 10 hm rfl)] at e
      omega
    have ih := splitK_lines k (l.drop (o + 1)) hcount
    have hneg : (Lib.index l [10] == -1) = false := by rw [Lib.index_one, ho]; simp <;> omega
    rw [Lib.splitK, hneg]
    simp only [Bool.false_eq_true, if_false, Lib.index_one, ho, Int.toNat_natCast, Nat.add_zero, List.length_cons, List.length_nil, Nat.zero_add]
    rw [ih]
    conv => rhs; rw [hcut]
    rw [linesL_at _ _ ha]

def toB (l : List UInt8) : ByteArray := ⟨l.toArray⟩
theorem toB_data (l : List UInt8) : (toB l).data.toList = l := rfl
theorem toB_of (s : ByteArray) : toB s.data.toList = s := bytes_eq rfl
theorem toB_size (l : List UInt8) : (toB l).size = l.length := by rw [← bytes_len, toB_data]
/-- A text's lines. -/
def piecesB (s : ByteArray) : List ByteArray := (linesL s.data.toList).map toB
def nlB : ByteArray := ⟨#[10]⟩
theorem splitB_pieces (s : ByteArray) : Lib.splitB nlB 0 (Lib.countB s nlB) s = piecesB s := by
  have h := Lib.splitB_data nlB 0 (Lib.countB s nlB) s
  have hc : Lib.countB s nlB = s.data.toList.count 10 := by
    show Lib.count s.data.toList [10] = _
    exact Lib.count_one 10 _
  have e : Lib.splitK nlB.data.toList 0 (Lib.countB s nlB) s.data.toList = linesL s.data.toList := splitK_lines _ _ hc.symm
  rw [e] at h
  unfold piecesB
  rw [← h, List.map_map]
  conv => lhs; rw [← List.map_id (Lib.splitB nlB 0 (Lib.countB s nlB) s)]
  apply List.map_congr_left
  intro x _
  exact (toB_of x).symm
theorem pieces_len (s : ByteArray) : (piecesB s).length = Lib.countB s nlB + 1 := by
  rw [← splitB_pieces]
  exact Lib.splitB_all nlB (by decide) 0 _ s rfl

def join10 : List (List UInt8) → List UInt8
  | [] => []
  | [p] => p
  | p :: q :: ps => p ++ 10 :: join10 (q :: ps)
theorem join_lines : ∀ l : List UInt8, join10 (linesL l) = l
  | [] => rfl
  | c :: l => by
    have ih := join_lines l
    have hne := linesL_ne l
    simp only [linesL]
    split
    · rename_i hc
      subst hc
      cases hl : linesL l with
      | nil => exact absurd hl hne
      | cons p ps =>
        rw [hl] at ih
        simp only [join10, List.nil_append]
        rw [ih]
    · cases hl : linesL l with
      | nil => exact absurd hl hne
      | cons p ps =>
        rw [hl] at ih
        cases ps with
        | nil => simp only [join10] at ih ⊢; rw [ih]
        | cons q ps => simp only [join10, List.cons_append] at ih ⊢; rw [ih]

/-! ### Where lines begin -/
def stL : Nat → List (List UInt8) → List Nat
  | _, [] => []
  | f, p :: ps => f :: stL (f + p.length + 1) ps
def nls : Nat → List UInt8 → List Nat
  | _, [] => []
  | k, c :: l => if c = 10 then (k + 1) :: nls (k + 1) l else nls (k + 1) l
theorem starts_go : ∀ (l : List UInt8) (f : Nat) (cur p : List UInt8) (ps : List (List UInt8)), linesL l = p :: ps → stL f ((cur ++ p) :: ps) = f :: nls (f + cur.length) l
  | [], f, cur, p, ps, h => by
    simp only [linesL, List.cons.injEq] at h
    obtain ⟨rfl, rfl⟩ := h
    simp [stL, nls]
  | c :: l, f, cur, p, ps, h => by
    have hne := linesL_ne l
    cases hl : linesL l with
    | nil => exact absurd hl hne
    | cons p2 ps2 =>
      simp only [linesL, hl] at h
      split at h
      · rename_i hc
        subst hc
        cases h
        have ih := starts_go l (f + cur.length + 1) [] p2 ps2 hl
        simp only [List.nil_append, List.length_nil, Nat.add_zero] at ih
        simp only [stL, List.append_nil, nls, if_true]
        rw [← ih]
        rfl
      · rename_i hc
        cases h
        have ih := starts_go l f (cur ++ [c]) p2 _ hl
        simp only [List.append_assoc, List.singleton_append, List.length_append, List.length_cons, List.length_nil, Nat.zero_add] at ih
        simp only [nls, if_neg hc]
        rw [ih, Nat.add_assoc]
theorem starts_is (l : List UInt8) : stL 0 (linesL l) = 0 :: nls 0 l := by
  cases hl : linesL l with
  | nil => exact absurd hl (linesL_ne l)
  | cons p ps => exact starts_go l 0 [] p ps hl
theorem stL_len : ∀ (f : Nat) (ps : List (List UInt8)), (stL f ps).length = ps.length
  | _, [] => rfl
  | f, p :: ps => by simp [stL, stL_len]

theorem piece_at : ∀ (ps : List (List UInt8)) (f n : Nat) (p : List UInt8), ps[n]? = some p → ∃ st, (stL f ps)[n]? = some (f + st) ∧ ((join10 ps).drop st).take p.length = p ∧ st + p.length ≤ (join10 ps).length ∧
    (n + 1 < ps.length → (stL f ps)[n + 1]? = some (f + st + p.length + 1)) ∧ (n + 1 = ps.length → st + p.length = (join10 ps).length)
  | [], f, n, p, h => by simp at h
  | [q], f, 0, p, h => by
    simp at h
    subst h
    exact ⟨0, by simp [stL], by simp [join10], by simp [join10], by simp, by simp [join10]⟩
  | [q], f, n + 1, p, h => by simp at h
  | q :: q2 :: ps, f, 0, p, h => by
    simp at h
    subst h
    exact ⟨0, by simp [stL], by simp [join10], by simp [join10], by simp [stL], by simp⟩
  | q :: q2 :: ps, f, n + 1, p, h => by
    obtain ⟨st, h1, h2, h3, h4, h5⟩ := piece_at (q2 :: ps) (f + q.length + 1) n p (by simpa using h)
    refine ⟨q.length + 1 + st, ?_, ?_, ?_, fun hn => ?_, fun hn => ?_⟩
    · simp only [stL, List.getElem?_cons_succ] at h1 ⊢
      rw [h1]; congr 1; omega
    · have e : (join10 (q :: q2 :: ps)).drop (q.length + 1 + st) = (join10 (q2 :: ps)).drop st := by
        simp only [join10]
        have e2 : q ++ 10 :: join10 (q2 :: ps) = (q ++ [10]) ++ join10 (q2 :: ps) := by simp
        rw [e2, List.drop_append]
        have e3 : q.length + 1 + st - (q ++ [10]).length = st := by simp <;> omega
        rw [e3, List.drop_of_length_le (by simp <;> omega)]
        rfl
      rw [e]; exact h2
    · simp only [join10, List.length_append, List.length_cons]; omega
    · have := h4 (by simp at hn ⊢; omega)
      simp only [stL, List.getElem?_cons_succ] at this ⊢
      rw [this]; congr 1; omega
    · have := h5 (by simp at hn ⊢; omega)
      simp only [join10, List.length_append, List.length_cons]; omega

def listsOf (ps : List ByteArray) : List (List UInt8) := ps.map fun p => p.data.toList
theorem lists_pieces (s : ByteArray) : listsOf (piecesB s) = linesL s.data.toList := by
  unfold listsOf piecesB
  rw [List.map_map]
  conv => rhs; rw [← List.map_id (linesL s.data.toList)]
  apply List.map_congr_left
  intro x _
  rfl
theorem join_pieces (s : ByteArray) : join10 (listsOf (piecesB s)) = s.data.toList := by rw [lists_pieces, join_lines]
end Go.Proofs.YtflpihedhccdfaaGreatDoor
