/-
  Lines, plainly: the pieces of a text, the edits between two texts line by line, what they make. No program here.
-/
import Derived.Lib.SplitLaws
import Derived.Lib.IndexLaws
import Derived.Lib.IndexBytes
import Derived.Test.YtkfdjffoljkomaaDoorEdW
set_option linter.unusedSimpArgs false
set_option linter.unusedVariables false
namespace Go.Proofs.YtkfdjffoljkomaaDoor
open Go.RowKit

def linesL : List UInt8 → List (List UInt8)
  | [] => [[]]
  | c :: l => if c = 10 then [] :: linesL l else match linesL l with | [] => [[c]] | p :: ps => (c :: p) :: ps

theorem linesL_ne (l : List UInt8) : linesL l ≠ [] := by
  cases l with
  | nil => simp [linesL]
  | cons c l =>
    simp only [linesL]
    split
    · simp
    · split <;> simp
theorem linesL_none : ∀ (l : List UInt8), (∀ c ∈ l, c ≠ 10) → linesL l = [l]
  | [], _ => rfl
  | c :: l, h => by
    have ih := linesL_none l (fun x hx => h x (List.mem_cons_of_mem _ hx))
    have hc := h c List.mem_cons_self
    simp [linesL, hc, ih]
theorem linesL_at (b : List UInt8) : ∀ (a : List UInt8), (∀ c ∈ a, c ≠ 10) → linesL (a ++ 10 :: b) = a :: linesL b
  | [], _ => by simp [linesL]
  | c :: a, h => by
    have ih := linesL_at b a (fun x hx => h x (List.mem_cons_of_mem _ hx))
    have hc := h c List.mem_cons_self
    simp [linesL, hc, ih]

theorem splitK_lines : ∀ (k : Nat) (l : List UInt8), l.count 10 = k → Lib.splitK [10] 0 k l = linesL l
  | 0, l, h => by
    rw [linesL_none l (fun c hc e => by subst e; exact (List.count_eq_zero.1 h) hc)]
    rfl
  | k + 1, l, h => by
    have hne : Lib.indexByte l 10 ≠ -1 := fun e => by
      have hm : (10 : UInt8) ∈ l := List.count_pos_iff.1 (by omega)
      obtain ⟨j, hj⟩ := List.mem_iff_getElem?.1 hm
      exact Lib.indexByte_none e j hj
    have hge := Lib.indexByte_ge l 10
    obtain ⟨o, ho⟩ : ∃ o : Nat, Lib.indexByte l 10 = o := ⟨(Lib.indexByte l 10).toNat, by omega⟩
    obtain ⟨h1, h2⟩ := Lib.indexByte_some ho
    obtain ⟨hl, hx⟩ := List.getElem?_eq_some_iff.1 h1
    have hcut : l = l.take o ++ 10 :: l.drop (o + 1) := by
      rw [← hx, ← List.drop_eq_getElem_cons hl, List.take_append_drop]
    have ha : ∀ c ∈ l.take o, c ≠ 10 := fun c hc e => by
      subst e
      obtain ⟨j, hj⟩ := List.mem_iff_getElem?.1 hc
      rw [List.getElem?_take] at hj
      split at hj
      · rename_i hjo
        exact h2 j hjo hj
      · cases hj
    have hcount : (l.drop (o + 1)).count 10 = k := by
      have e := congrArg (List.count 10) hcut
      rw [List.count_append, List.count_cons_self, List.count_eq_zero.2 (fun hm => ha 10 hm rfl)] at e
      omega
    have ih := splitK_lines k (l.drop (o + 1)) hcount
    have hneg : (Lib.index l [10] == -1) = false := by rw [Lib.index_one, ho]; simp <;> omega
    rw [Lib.splitK, hneg]
    simp only [Bool.false_eq_true, if_false, Lib.index_one, ho, Int.toNat_natCast, Nat.add_zero, List.length_cons, List.length_nil, Nat.zero_add]
    rw [ih]
    conv => rhs; rw [hcut]
    rw [linesL_at _ _ ha]

def toB (l : List UInt8) : ByteArray := ⟨l.toArray⟩
theorem toB_data (l : List UInt8) : (toB l).data.toList = l := rfl
theorem toB_of (s : ByteArray) : toB s.data.toList = s := bytes_eq rfl
theorem toB_size (l : List UInt8) : (toB l).size = l.length := by rw [← bytes_len, toB_data]
/-- A text's lines. -/
def piecesB (s : ByteArray) : List ByteArray := (linesL s.data.toList).map toB
def nlB : ByteArray := ⟨#[10]⟩
theorem splitB_pieces (s : ByteArray) : Lib.splitB nlB 0 (Lib.countB s nlB) s = piecesB s := by
  have h := Lib.splitB_data nlB 0 (Lib.countB s nlB) s
  have hc : Lib.countB s nlB = s.data.toList.count 10 := by
    show Lib.count s.data.toList [10] = _
    exact Lib.count_one 10 _
  have e : Lib.splitK nlB.data.toList 0 (Lib.countB s nlB) s.data.toList = linesL s.data.toList := splitK_lines _ _ hc.symm
  rw [e] at h
  unfold piecesB
  rw [← h, List.map_map]
  conv => lhs; rw [← List.map_id (Lib.splitB nlB 0 (Lib.countB s nlB) s)]
  apply List.map_congr_left
  intro x _
  exact (toB_of x).symm
theorem pieces_len (s : ByteArray) : (piecesB s).length = Lib.countB s nlB + 1 := by
  rw [← splitB_pieces]
  exact Lib.splitB_all nlB (by decide) 0 _ s rfl

def join10 : List (List UInt8) → List UInt8
  | [] => []
  | [p] => p
  | p :: q :: ps => p ++ 10 :: join10 (q :: ps)
theorem join_lines : ∀ l : List UInt8, join10 (linesL l) = l
  | [] => rfl
  | c :: l => by
    have ih := join_lines l
    have hne := linesL_ne l
    simp only [linesL]
    split
    · rename_i hc
      subst hc
      cases hl : linesL l with
      | nil => exact absurd hl hne
      | cons p ps =>
        rw [hl] at ih
        simp only [join10, List.nil_append]
        rw [ih]
    · cases hl : linesL l with
      | nil => exact absurd hl hne
      | cons p ps =>
        rw [hl] at ih
        cases ps with
        | nil => simp only [join10] at ih ⊢; rw [ih]
        | cons q ps => simp only [join10, List.cons_append] at ih ⊢; rw [ih]

/-! ### Where lines begin -/
def stL : Nat → List (List UInt8) → List Nat
  | _, [] => []
  | f, p :: ps => f :: stL (f + p.length + 1) ps
def nls : Nat → List UInt8 → List Nat
  | _, [] => []
  | k, c :: l => if c = 10 then (k + 1) :: nls (k + 1) l else nls (k + 1) l
theorem starts_go : ∀ (l : List UInt8) (f : Nat) (cur p : List UInt8) (ps : List (List UInt8)), linesL l = p :: ps → stL f ((cur ++ p) :: ps) = f :: nls (f + cur.length) l
  | [], f, cur, p, ps, h => by
    simp only [linesL, List.cons.injEq] at h
    obtain ⟨rfl, rfl⟩ := h
    simp [stL, nls]
  | c :: l, f, cur, p, ps, h => by
    have hne := linesL_ne l
    cases hl : linesL l with
    | nil => exact absurd hl hne
    | cons p2 ps2 =>
      simp only [linesL, hl] at h
      split at h
      · rename_i hc
        subst hc
        cases h
        have ih := starts_go l (f + cur.length + 1) [] p2 ps2 hl
        simp only [List.nil_append, List.length_nil, Nat.add_zero] at ih
        simp only [stL, List.append_nil, nls, if_true]
        rw [← ih]
        rfl
      · rename_i hc
        cases h
        have ih := starts_go l f (cur ++ [c]) p2 _ hl
        simp only [List.append_assoc, List.singleton_append, List.length_append, List.length_cons, List.length_nil, Nat.zero_add] at ih
        simp only [nls, if_neg hc]
        rw [ih, Nat.add_assoc]
theorem starts_is (l : List UInt8) : stL 0 (linesL l) = 0 :: nls 0 l := by
  cases hl : linesL l with
  | nil => exact absurd hl (linesL_ne l)
  | cons p ps => exact starts_go l 0 [] p ps hl
theorem stL_len : ∀ (f : Nat) (ps : List (List UInt8)), (stL f ps).length = ps.length
  | _, [] => rfl
  | f, p :: ps => by simp [stL, stL_len]

theorem piece_at : ∀ (ps : List (List UInt8)) (f n : Nat) (p : List UInt8), ps[n]? = some p → ∃ st, (stL f ps)[n]? = some (f + st) ∧ ((join10 ps).drop st).take p.length = p ∧ st + p.length ≤ (join10 ps).length ∧
    (n + 1 < ps.length → (stL f ps)[n + 1]? = some (f + st + p.length + 1)) ∧ (n + 1 = ps.length → st + p.length = (join10 ps).length)
  | [], f, n, p, h => by simp at h
  | [q], f, 0, p, h => by
    simp at h
    subst h
    exact ⟨0, by simp [stL], by simp [join10], by simp [join10], by simp, by simp [join10]⟩
  | [q], f, n + 1, p, h => by simp at h
  | q :: q2 :: ps, f, 0, p, h => by
    simp at h
    subst h
    exact ⟨0, by simp [stL], by simp [join10], by simp [join10], by simp [stL], by simp⟩
  | q :: q2 :: ps, f, n + 1, p, h => by
    obtain ⟨st, h1, h2, h3, h4, h5⟩ := piece_at (q2 :: ps) (f + q.length + 1) n p (by simpa using h)
    refine ⟨q.length + 1 + st, ?_, ?_, ?_, fun hn => ?_, fun hn => ?_⟩
    · simp only [stL, List.getElem?_cons_succ] at h1 ⊢
      rw [h1]; congr 1; omega
    · have e : (join10 (q :: q2 :: ps)).drop (q.length + 1 + st) = (join10 (q2 :: ps)).drop st := by
        simp only [join10]
        have e2 : q ++ 10 :: join10 (q2 :: ps) = (q ++ [10]) ++ join10 (q2 :: ps) := by simp
        rw [e2, List.drop_append]
        have e3 : q.length + 1 + st - (q ++ [10]).length = st := by simp <;> omega
        rw [e3, List.drop_of_length_le (by simp <;> omega)]
        rfl
      rw [e]; exact h2
    · simp only [join10, List.length_append, List.length_cons]; omega
    · have := h4 (by simp at hn ⊢; omega)
      simp only [stL, List.getElem?_cons_succ] at this ⊢
      rw [this]; congr 1; omega
    · have := h5 (by simp at hn ⊢; omega)
      simp only [join10, List.length_append, List.length_cons]; omega

/-! ### The edits line by line -/
def shiftE (f : Nat) (x : Ed) : Ed := ⟨x.pos + f, x.n, x.s⟩
def linesGo : List ByteArray → List ByteArray → Nat → List Ed
  | p :: ps, q :: qs, f => (between p q).map (shiftE f) ++ linesGo ps qs (f + p.size + 1)
  | _, _, _ => []
def linesOut (s t : ByteArray) : List Ed := if (piecesB s).length = (piecesB t).length then linesGo (piecesB s) (piecesB t) 0 else between s t

theorem linesGo_none (f : Nat) (qs : List ByteArray) : linesGo [] qs f = [] := by simp [linesGo]
theorem linesGo_cons (p q : ByteArray) (ps qs : List ByteArray) (f : Nat) : linesGo (p :: ps) (q :: qs) f = (between p q).map (shiftE f) ++ linesGo ps qs (f + p.size + 1) := rfl

/-- One step of the loop over lines. -/
theorem lines_step {ps qs : List ByteArray} {i f : Nat} {p q : ByteArray} {done T : List Ed} (hp : ps[i]? = some p) (hq : qs[i]? = some q) (h : done ++ linesGo (ps.drop i) (qs.drop i) f = T) :
    (done ++ (between p q).map (shiftE f)) ++ linesGo (ps.drop (i + 1)) (qs.drop (i + 1)) (f + p.size + 1) = T := by
  obtain ⟨h1, rfl⟩ := List.getElem?_eq_some_iff.1 hp
  obtain ⟨h2, rfl⟩ := List.getElem?_eq_some_iff.1 hq
  rw [← h, List.drop_eq_getElem_cons h1, List.drop_eq_getElem_cons h2, linesGo_cons, List.append_assoc]

/-- Where the first one lies. -/
def FromE (u : Nat) (L : List Ed) : Prop := ∀ x, L.head? = some x → (u : Int) ≤ x.pos
theorem from_lines : ∀ (ps qs : List ByteArray) (f u : Nat), u ≤ f → FromE u (linesGo ps qs f)
  | [], qs, f, u, h => by rw [linesGo_none]; intro x hx; simp at hx
  | p :: ps, [], f, u, h => by intro x hx; simp [linesGo] at hx
  | p :: ps, q :: qs, f, u, h => by
    rw [linesGo_cons]
    unfold between
    split
    · exact from_lines ps qs _ u (by omega)
    · intro x hx
      simp only [List.map_cons, List.map_nil, List.cons_append, List.head?_cons, Option.some.injEq] at hx
      subst hx
      simp only [shiftE, edge]
      omega
theorem apply_skip {S : List UInt8} {L : List Ed} {v u : Nat} (h : FromE u L) (hv : v ≤ u) : applyL S v L = (S.drop v).take (u - v) ++ applyL S u L := by
  cases L with
  | nil =>
    simp only [applyL]
    have e : S.drop u = (S.drop v).drop (u - v) := by rw [List.drop_drop]; congr 1; omega
    rw [e, List.take_append_drop]
  | cons x L =>
    have hx := h x rfl
    have e : S.drop u = (S.drop v).drop (u - v) := by rw [List.drop_drop]; congr 1; omega
    have e2 : x.pos.toNat - v = (u - v) + (x.pos.toNat - u) := by omega
    show (S.drop v).take (x.pos.toNat - v) ++ (x.s.data.toList ++ applyL S (x.pos + x.n).toNat L) = (S.drop v).take (u - v) ++ ((S.drop u).take (x.pos.toNat - u) ++ (x.s.data.toList ++ applyL S (x.pos + x.n).toNat L))
    rw [e, e2, List.take_add]
    simp only [List.append_assoc]

theorem edge_parts (p q : ByteArray) : p.data.toList.take (front p q) = q.data.toList.take (front p q) ∧ p.data.toList.drop (p.size - behind p q) = q.data.toList.drop (q.size - behind p q) := by
  refine ⟨lcp_same (Nat.le_refl _), ?_⟩
  have h := lcp_same (s := (rest p (front p q)).data.toList.reverse) (t := (rest q (front p q)).data.toList.reverse) (Nat.le_refl _)
  have hb := behind_le p q
  have hf := front_le p q
  change (rest p (front p q)).data.toList.reverse.take (behind p q) = (rest q (front p q)).data.toList.reverse.take (behind p q) at h
  rw [List.take_reverse, List.take_reverse] at h
  have h2 := List.reverse_inj.1 h
  rw [bytes_len, bytes_len, rest_size, rest_size, rest_list, rest_list, List.drop_drop, List.drop_drop] at h2
  have e1 : front p q + (p.size - front p q - behind p q) = p.size - behind p q := by omega
  have e2 : front p q + (q.size - front p q - behind p q) = q.size - behind p q := by omega
  rw [e1, e2] at h2
  exact h2

/-- A line's edits make the other line. -/
theorem apply_line (pre rest_ : List UInt8) (p q : ByteArray) (L : List Ed) (hL : FromE (pre.length + p.size) L) :
    applyL (pre ++ (p.data.toList ++ rest_)) pre.length ((between p q).map (shiftE pre.length) ++ L) = q.data.toList ++ applyL (pre ++ (p.data.toList ++ rest_)) (pre.length + p.size) L := by
  have hps : p.data.toList.length = p.size := bytes_len p
  unfold between
  split
  · rename_i e
    subst e
    simp only [List.map_nil, List.nil_append]
    rw [apply_skip hL (by omega)]
    congr 1
    rw [List.drop_left, Nat.add_sub_cancel_left, ← hps, List.take_left]
  · obtain ⟨h1, h2⟩ := edge_parts p q
    have hb := behind_le p q
    have hf := front_le p q
    have hqs : q.data.toList.length = q.size := bytes_len q
    simp only [List.map_cons, List.map_nil, List.cons_append, List.nil_append, applyL, shiftE, edge]
    have e1 : ((front p q : Int) + (pre.length : Int)).toNat - pre.length = front p q := by omega
    have e2 : ((front p q : Int) + (pre.length : Int) + ((p.size : Int) - (behind p q : Int) - (front p q : Int))).toNat = pre.length + (p.size - behind p q) := by omega
    rw [e1, e2, List.drop_left, apply_skip hL (v := pre.length + (p.size - behind p q)) (by omega)]
    have e3 : (pre ++ (p.data.toList ++ rest_)).drop (pre.length + (p.size - behind p q)) = p.data.toList.drop (p.size - behind p q) ++ rest_ := by
      rw [← List.drop_drop, List.drop_left, List.drop_append, hps]
      have : p.size - behind p q - p.size = 0 := by omega
      rw [this]
      rfl
    have e4 : pre.length + p.size - (pre.length + (p.size - behind p q)) = (p.data.toList.drop (p.size - behind p q)).length := by rw [List.length_drop, hps]; omega
    rw [e3, e4, List.take_left, List.take_append_of_le_length (by omega), h1, h2, bytes_ext]
    generalize applyL (pre ++ (p.data.toList ++ rest_)) (pre.length + p.size) L = X
    have e5 : q.data.toList.take (front p q) ++ (q.data.toList.drop (front p q)).take (q.size - behind p q - front p q) = q.data.toList.take (q.size - behind p q) := by
      have : q.size - behind p q = front p q + (q.size - behind p q - front p q) := by omega
      conv => rhs; rw [this, List.take_add]
    rw [← List.append_assoc, e5, ← List.append_assoc, List.take_append_drop]

def listsOf (ps : List ByteArray) : List (List UInt8) := ps.map fun p => p.data.toList
theorem apply_lines : ∀ (ps qs : List ByteArray) (pre : List UInt8), ps.length = qs.length → applyL (pre ++ join10 (listsOf ps)) pre.length (linesGo ps qs pre.length) = join10 (listsOf qs)
  | [], [], pre, _ => by simp [listsOf, join10, linesGo, applyL]
  | [], q :: qs, pre, h => by simp at h
  | p :: ps, [], pre, h => by simp at h
  | [p], [q], pre, _ => by
    have h := apply_line pre [] p q [] (fun x hx => by simp at hx)
    simp only [List.append_nil] at h
    have e : linesGo [p] [q] pre.length = (between p q).map (shiftE pre.length) := by simp [linesGo]
    rw [e]
    simp only [listsOf, List.map_cons, List.map_nil, join10]
    rw [h]
    simp only [applyL]
    rw [List.drop_of_length_le (by simp [bytes_len])]
    simp
  | [p], q :: q2 :: qs, pre, h => by simp at h
  | p :: p2 :: ps, [q], pre, h => by simp at h
  | p :: p2 :: ps, q :: q2 :: qs, pre, h => by
    have ih := apply_lines (p2 :: ps) (q2 :: qs) (pre ++ (p.data.toList ++ [10])) (by simpa using h)
    have hln : (pre ++ (p.data.toList ++ [10])).length = pre.length + p.size + 1 := by simp [bytes_len]; omega
    rw [hln] at ih
    have hF := from_lines (p2 :: ps) (q2 :: qs) (pre.length + p.size + 1) (pre.length + p.size) (by omega)
    have hF2 := from_lines (p2 :: ps) (q2 :: qs) (pre.length + p.size + 1) (pre.length + p.size + 1) (by omega)
    have h1 := apply_line pre (10 :: join10 (listsOf (p2 :: ps))) p q (linesGo (p2 :: ps) (q2 :: qs) (pre.length + p.size + 1)) hF
    rw [linesGo_cons]
    have e1 : join10 (listsOf (p :: p2 :: ps)) = p.data.toList ++ 10 :: join10 (listsOf (p2 :: ps)) := rfl
    have e2 : join10 (listsOf (q :: q2 :: qs)) = q.data.toList ++ 10 :: join10 (listsOf (q2 :: qs)) := rfl
    rw [e1, e2, h1]
    congr 1
    rw [apply_skip hF2 (v := pre.length + p.size) (by omega)]
    have e3 : pre ++ (p.data.toList ++ 10 :: join10 (listsOf (p2 :: ps))) = (pre ++ (p.data.toList ++ [10])) ++ join10 (listsOf (p2 :: ps)) := by simp
    rw [e3, ih]
    have e4 : ((pre ++ (p.data.toList ++ [10])) ++ join10 (listsOf (p2 :: ps))).drop (pre.length + p.size) = 10 :: join10 (listsOf (p2 :: ps)) := by
      have : (pre ++ (p.data.toList ++ [10])) ++ join10 (listsOf (p2 :: ps)) = (pre ++ p.data.toList) ++ (10 :: join10 (listsOf (p2 :: ps))) := by simp
      rw [this, List.drop_append, List.drop_of_length_le (by simp [bytes_len])]
      simp [bytes_len]
    rw [e4]
    have e5 : pre.length + p.size + 1 - (pre.length + p.size) = 1 := by omega
    rw [e5]
    rfl

theorem right_lines : ∀ (ps qs : List ByteArray) (f e n : Nat), e ≤ f → f + (join10 (listsOf ps)).length ≤ n → right n e (linesGo ps qs f) = true
  | [], qs, f, e, n, _, _ => by rw [linesGo_none]; rfl
  | p :: ps, [], f, e, n, _, _ => by simp [linesGo, right]
  | p :: ps, q :: qs, f, e, n, h1, h2 => by
    have hlen : f + p.size ≤ n ∧ (ps ≠ [] → f + p.size + 1 + (join10 (listsOf ps)).length ≤ n) := by
      cases ps with
      | nil => simp [listsOf, join10, bytes_len] at h2; exact ⟨h2, fun h => absurd rfl h⟩
      | cons p2 ps =>
        have e1 : join10 (listsOf (p :: p2 :: ps)) = p.data.toList ++ 10 :: join10 (listsOf (p2 :: ps)) := rfl
        rw [e1] at h2
        simp [bytes_len] at h2
        exact ⟨by omega, fun _ => by omega⟩
    have hrest : ∀ e' : Nat, e' ≤ f + p.size + 1 → right n e' (linesGo ps qs (f + p.size + 1)) = true := fun e' he' => by
      by_cases hps : ps = []
      · subst hps; rw [linesGo_none]; rfl
      · exact right_lines ps qs _ e' n he' (hlen.2 hps)
    rw [linesGo_cons]
    unfold between
    split
    · simp only [List.map_nil, List.nil_append]
      exact hrest e (by omega)
    · have hb := behind_le p q
      have hf := front_le p q
      simp only [List.map_cons, List.map_nil, List.cons_append, List.nil_append]
      rw [right_cons]
      simp only [shiftE, edge]
      refine ⟨by omega, by omega, by omega, by omega, ?_⟩
      have e2 : (front p q : Int) + (f : Int) + ((p.size : Int) - (behind p q : Int) - (front p q : Int)) = ((f + (p.size - behind p q) : Nat) : Int) := by omega
      rw [e2]
      exact hrest _ (by omega)

theorem lists_pieces (s : ByteArray) : listsOf (piecesB s) = linesL s.data.toList := by
  unfold listsOf piecesB
  rw [List.map_map]
  conv => rhs; rw [← List.map_id (linesL s.data.toList)]
  apply List.map_congr_left
  intro x _
  rfl
theorem join_pieces (s : ByteArray) : join10 (listsOf (piecesB s)) = s.data.toList := by rw [lists_pieces, join_lines]

theorem between_makes (s t : ByteArray) : applied s (between s t) = t ∧ right s.size 0 (between s t) = true := by
  have h := apply_line [] [] s t [] (fun x hx => by simp at hx)
  simp only [List.nil_append, List.append_nil, List.length_nil, Nat.zero_add] at h
  have e0 : (between s t).map (shiftE 0) = between s t := by
    conv => rhs; rw [← List.map_id (between s t)]
    apply List.map_congr_left
    intro x _
    simp [shiftE]
  rw [e0] at h
  refine ⟨bytes_eq ?_, ?_⟩
  · unfold applied
    show applyL s.data.toList 0 (between s t) = _
    rw [h]
    simp only [applyL]
    rw [List.drop_of_length_le (by rw [bytes_len]; exact Nat.le_refl _), List.append_nil]
  · unfold between
    split
    · rfl
    · exact edge_right s t
theorem lines_make (s t : ByteArray) : applied s (linesOut s t) = t ∧ right s.size 0 (linesOut s t) = true := by
  unfold linesOut
  split
  · rename_i hl
    have h := apply_lines (piecesB s) (piecesB t) [] hl
    simp only [List.nil_append, List.length_nil, join_pieces] at h
    refine ⟨bytes_eq ?_, ?_⟩
    · unfold applied
      exact h
    · exact right_lines _ _ 0 0 s.size (Nat.le_refl _) (by rw [join_pieces, bytes_len]; omega)
  · exact between_makes s t

theorem between_nil {s t : ByteArray} : between s t = [] ↔ s = t := by
  unfold between
  split
  · rename_i h; simp [h]
  · rename_i h; simp [h]
theorem between_le (s t : ByteArray) : (between s t).length ≤ 1 := by
  unfold between
  split <;> simp
theorem linesGo_len : ∀ (ps qs : List ByteArray) (f : Nat), (linesGo ps qs f).length ≤ ps.length
  | [], qs, f => by rw [linesGo_none]; simp
  | p :: ps, [], f => by simp [linesGo]
  | p :: ps, q :: qs, f => by
    rw [linesGo_cons, List.length_append, List.length_map]
    have := between_le p q
    have := linesGo_len ps qs (f + p.size + 1)
    simp only [List.length_cons]
    omega
theorem linesGo_nil : ∀ (ps qs : List ByteArray) (f : Nat), ps.length = qs.length → (linesGo ps qs f = [] ↔ ps = qs)
  | [], [], f, _ => by simp [linesGo]
  | [], q :: qs, f, h => by simp at h
  | p :: ps, [], f, h => by simp at h
  | p :: ps, q :: qs, f, h => by
    have ih := linesGo_nil ps qs (f + p.size + 1) (by simpa using h)
    rw [linesGo_cons, List.append_eq_nil_iff, List.map_eq_nil_iff, between_nil, ih]
    simp
theorem linesOut_nil (s t : ByteArray) : linesOut s t = [] ↔ s = t := by
  unfold linesOut
  split
  · rename_i hl
    rw [linesGo_nil _ _ _ hl]
    refine ⟨fun h => ?_, fun h => by rw [h]⟩
    apply bytes_eq
    rw [← join_pieces s, ← join_pieces t, h]
  · exact between_nil
theorem linesOut_len (s t : ByteArray) : (linesOut s t).length ≤ s.data.toList.count 10 + 1 := by
  have hp : (piecesB s).length = s.data.toList.count 10 + 1 := by
    rw [pieces_len]
    show Lib.count s.data.toList [10] + 1 = _
    rw [Lib.count_one]
  unfold linesOut
  split
  · have := linesGo_len (piecesB s) (piecesB t) 0
    omega
  · have := between_le s t
    omega
end Go.Proofs.YtkfdjffoljkomaaDoor
