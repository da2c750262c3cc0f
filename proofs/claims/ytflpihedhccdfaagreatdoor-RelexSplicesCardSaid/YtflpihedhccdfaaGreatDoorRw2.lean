/-
  A text's lines behind a splice, plainly. No program here.
-/
import Derived.Test.YtflpihedhccdfaaGreatDoorProg
import Derived.Test.YtflpihedhccdfaaGreatDoorReg
import Derived.WalkKit
import Derived.WalkSpells
import Derived.WalkLawsBesides
import Derived.Lib.Hide
import Derived.Lib.MinMax
import Derived.Deep.QuietTactic
import Derived.BigQuiet
import Derived.OwnWalk
import Derived.Deep.AppendLies
import Derived.KernelRfl
import Derived.Test.YtflpihedhccdfaaGreatDoorRw1
import Derived.Test.YtflpihedhccdfaaGreatDoorLxM1
import Derived.Laws.OwnMore
import Derived.Test.YtflpihedhccdfaaGreatDoorLxM2
import Derived.RangeFuncNested
import Derived.RangeFuncBound
import Derived.RangeFuncCalls
import Derived.RangeFuncLeaves
import Derived.RangeFuncBox
import Derived.OwnWalkIn
import Derived.TacticsInMore
import Derived.LoopNIn
import Derived.LoopIn
import Derived.Deep.RegionLaw
import Derived.Deep.Cut
import Derived.Test.YtflpihedhccdfaaGreatDoorRegIn
import Derived.Test.YtflpihedhccdfaaGreatDoorJoint2
import Derived.Test.YtflpihedhccdfaaGreatDoorLxM4
import Derived.Deep.OwnRows
import Derived.Deep.RegionWith
import Derived.Test.YtflpihedhccdfaaGreatDoorLxM11
set_option linter.unusedSimpArgs false
set_option linter.unusedVariables false
namespace Go.Proofs.YtflpihedhccdfaaGreatDoor
open Go.RowKit

/-- Lines with their ends, lines behind an end each. -/
def preL (xs : List (List UInt8)) : List UInt8 := (xs.map (fun p => p ++ [10])).flatten
def postL (xs : List (List UInt8)) : List UInt8 := (xs.map (fun p => 10 :: p)).flatten
def Free (xs : List (List UInt8)) : Prop := ∀ p ∈ xs, ∀ c ∈ p, c ≠ (10 : UInt8)

theorem lines_free : ∀ l : List UInt8, Free (linesL l)
  | [] => fun p hp c hc => by simp [linesL] at hp; subst hp; cases hc
  | d :: l => by
    have ih := lines_free l
    have hne := linesL_ne l
    intro p hp c hc
    cases hl : linesL l with
    | nil => exact absurd hl hne
    | cons q qs =>
      rw [hl] at ih
      by_cases hd : d = 10
      · simp only [linesL, hd, if_true, hl, List.mem_cons] at hp
        rcases hp with rfl | rfl | hp
        · cases hc
        · exact ih _ List.mem_cons_self c hc
        · exact ih _ (List.mem_cons_of_mem _ hp) c hc
      · simp only [linesL, if_neg hd, hl, List.mem_cons] at hp
        rcases hp with rfl | hp
        · rcases List.mem_cons.1 hc with rfl | hc
          · exact hd
          · exact ih _ List.mem_cons_self c hc
        · exact ih _ (List.mem_cons_of_mem _ hp) c hc
theorem lines_len : ∀ l : List UInt8, (linesL l).length = l.count 10 + 1
  | [] => rfl
  | d :: l => by
    have ih := lines_len l
    cases hl : linesL l with
    | nil => exact absurd hl (linesL_ne l)
    | cons q qs =>
      rw [hl] at ih
      by_cases hd : d = 10
      · simp only [linesL, hd, if_true, hl, List.length_cons, List.count_cons_self] at ih ⊢; omega
      · simp only [linesL, if_neg hd, hl, List.length_cons, List.count_cons_of_ne hd] at ih ⊢; omega
theorem lines_pre : ∀ (xs : List (List UInt8)) (b : List UInt8), Free xs → linesL (preL xs ++ b) = xs ++ linesL b
  | [], b, _ => rfl
  | x :: xs, b, h => by
    have ih := lines_pre xs b (fun p hp => h p (List.mem_cons_of_mem _ hp))
    have e : preL (x :: xs) ++ b = x ++ 10 :: (preL xs ++ b) := by simp [preL]
    rw [e, linesL_at _ _ (h x List.mem_cons_self), ih]
    rfl
theorem lines_app (b : List UInt8) : ∀ (a : List UInt8), linesL (a ++ 10 :: b) = linesL a ++ linesL b
  | [] => by simp [linesL]
  | c :: a => by
    have ih := lines_app b a
    cases hl : linesL a with
    | nil => exact absurd hl (linesL_ne a)
    | cons q qs =>
      rw [hl] at ih
      by_cases hc : c = 10
      · simp only [List.cons_append, linesL, hc, if_true, ih, hl]
      · simp only [List.cons_append, linesL, if_neg hc, ih, hl]
theorem lines_post : ∀ (xs : List (List UInt8)) (a : List UInt8), Free xs → linesL (a ++ postL xs) = linesL a ++ xs
  | [], a, _ => by simp [postL]
  | x :: xs, a, h => by
    have ih := lines_post xs x (fun p hp => h p (List.mem_cons_of_mem _ hp))
    have e : a ++ postL (x :: xs) = a ++ 10 :: (x ++ postL xs) := by simp [postL]
    rw [e, lines_app, ih, linesL_none x (h x List.mem_cons_self)]
    rfl
theorem join_pre : ∀ (xs : List (List UInt8)) (y : List UInt8) (ys : List (List UInt8)), join10 (xs ++ y :: ys) = preL xs ++ join10 (y :: ys)
  | [], y, ys => rfl
  | [x], y, ys => by simp [join10, preL]
  | x :: x2 :: xs, y, ys => by
    have ih := join_pre (x2 :: xs) y ys
    simp only [List.cons_append] at ih
    simp only [List.cons_append, join10, ih]
    simp [preL]
theorem join_post : ∀ (y : List UInt8) (ys : List (List UInt8)), join10 (y :: ys) = y ++ postL ys
  | y, [] => by simp [join10, postL]
  | y, z :: zs => by
    have ih := join_post z zs
    simp only [join10, ih]
    simp [postL]
theorem stL_pre : ∀ (xs : List (List UInt8)) (f : Nat) (y : List UInt8) (ys : List (List UInt8)), (stL f (xs ++ y :: ys))[xs.length]? = some (f + (preL xs).length)
  | [], f, y, ys => by simp [stL, preL]
  | x :: xs, f, y, ys => by
    have ih := stL_pre xs (f + x.length + 1) y ys
    simp only [List.cons_append, stL, List.length_cons, List.getElem?_cons_succ, ih]
    congr 1
    simp [preL]
    omega

/-- The line in which a place is, and where it begins: the last one that begins no later. -/
def findL : Nat → Nat → Nat → Nat → List Nat → Nat × Nat
  | _, _, n, b, [] => (n, b)
  | at_, i, n, b, st :: sts => if st ≤ at_ then findL at_ (i + 1) i st sts else findL at_ (i + 1) n b sts
def foundL (t : List UInt8) (p : Nat) : Nat × Nat := findL p 0 0 0 (stL 0 (linesL t))

/-- Line n of ls is y, behind xs, ahead of ys, and place p is in it. -/
structure InLine (ls : List (List UInt8)) (p n b : Nat) (xs : List (List UInt8)) (y : List UInt8) (ys : List (List UInt8)) : Prop where
  is : ls = xs ++ y :: ys
  num : n = xs.length
  beg : b = (preL xs).length
  le : b ≤ p
  ge : p ≤ b + y.length

theorem find_past (p : Nat) : ∀ (ls : List (List UInt8)) (i n b f : Nat), p < f → findL p i n b (stL f ls) = (n, b)
  | [], _, _, _, _, _ => rfl
  | x :: xs, i, n, b, f, h => by
    rw [stL, findL, if_neg (by omega)]
    exact find_past p xs (i + 1) n b (f + x.length + 1) (by omega)
theorem find_in (p : Nat) : ∀ (y : List UInt8) (ys : List (List UInt8)) (i n b f : Nat), f ≤ p → p ≤ f + (join10 (y :: ys)).length →
    ∃ zs z ws, y :: ys = zs ++ z :: ws ∧ findL p i n b (stL f (y :: ys)) = (i + zs.length, f + (preL zs).length) ∧ f + (preL zs).length ≤ p ∧ p ≤ f + (preL zs).length + z.length
  | y, ys, i, n, b, f, hf, hp => by
    by_cases h : p ≤ f + y.length
    · refine ⟨[], y, ys, rfl, ?_, by simpa [preL] using hf, by simpa [preL] using h⟩
      rw [stL, findL, if_pos hf, find_past p ys (i + 1) i f _ (by omega)]
      simp [preL]
    · cases ys with
      | nil => simp [join10] at hp; omega
      | cons z zs =>
        simp only [join10, List.length_append, List.length_cons] at hp
        obtain ⟨us, a, bs, h1, h2, h3, h4⟩ := find_in p z zs (i + 1) i f (f + y.length + 1) (by omega) (by omega)
        refine ⟨y :: us, a, bs, by rw [h1]; rfl, ?_, ?_, ?_⟩
        · rw [stL, findL, if_pos hf, h2]
          simp [preL]
          omega
        · simp [preL] at h3 ⊢; omega
        · simp [preL] at h4 ⊢; omega
theorem found_in (t : List UInt8) (p : Nat) (h : p ≤ t.length) : ∃ xs y ys, InLine (linesL t) p (foundL t p).1 (foundL t p).2 xs y ys := by
  cases hl : linesL t with
  | nil => exact absurd hl (linesL_ne t)
  | cons y ys =>
    have hj := join_lines t
    rw [hl] at hj
    obtain ⟨zs, z, ws, h1, h2, h3, h4⟩ := find_in p y ys 0 0 0 0 (Nat.zero_le _) (by rw [hj]; omega)
    unfold foundL
    rw [hl, h2]
    exact ⟨zs, z, ws, h1, by simp, by simp, by simpa using h3, by simpa using h4⟩

/-- The beginning of a text, and its end, by the line in which a place is. -/
theorem in_take {t : List UInt8} {p n b : Nat} {xs ys : List (List UInt8)} {y : List UInt8} (h : InLine (linesL t) p n b xs y ys) :
    t.take p = preL xs ++ y.take (p - b) ∧ t.drop p = y.drop (p - b) ++ postL ys := by
  have hj := join_lines t
  have e : t = preL xs ++ (y ++ postL ys) := by rw [← hj, h.is, join_pre, join_post]
  have hb := h.beg
  have h1 := h.le
  have h2 := h.ge
  constructor
  · conv => lhs; rw [e]
    rw [List.take_append, List.take_of_length_le (by omega), ← hb, List.take_append, show p - b - y.length = 0 by omega]
    simp
  · conv => lhs; rw [e]
    rw [List.drop_append, List.drop_of_length_le (by omega), ← hb, List.drop_append, show p - b - y.length = 0 by omega]
    simp
/-- The lines of a text behind a splice. -/
theorem splice_lines {t s : List UInt8} {p q n b m e : Nat} {xs ys zs ws : List (List UInt8)} {y z : List UInt8}
    (h : InLine (linesL t) p n b xs y ys) (k : InLine (linesL t) q m e zs z ws) :
    linesL (t.take p ++ s ++ t.drop q) = xs ++ linesL (y.take (p - b) ++ s ++ z.drop (q - e)) ++ ws := by
  have hfree := lines_free t
  have hx : Free xs := fun r hr => hfree r (by rw [h.is]; exact List.mem_append_left _ hr)
  have hw : Free ws := fun r hr => hfree r (by rw [k.is]; exact List.mem_append_right _ (List.mem_cons_of_mem _ hr))
  rw [(in_take h).1, (in_take k).2]
  have e1 : preL xs ++ y.take (p - b) ++ s ++ (z.drop (q - e) ++ postL ws) = preL xs ++ ((y.take (p - b) ++ s ++ z.drop (q - e)) ++ postL ws) := by simp
  rw [e1, lines_pre _ _ hx, lines_post _ _ hw, ← List.append_assoc]
theorem splice_len {t s : List UInt8} {p q n b m e : Nat} {xs ys zs ws : List (List UInt8)} {y z : List UInt8}
    (h : InLine (linesL t) p n b xs y ys) (k : InLine (linesL t) q m e zs z ws) :
    (linesL (y.take (p - b) ++ s ++ z.drop (q - e))).length = s.count 10 + 1 := by
  have hfree := lines_free t
  have hy : (y.take (p - b)).count 10 = 0 := List.count_eq_zero.2 fun hm => hfree y (by rw [h.is]; simp) 10 (List.mem_of_mem_take hm) rfl
  have hz : (z.drop (q - e)).count 10 = 0 := List.count_eq_zero.2 fun hm => hfree z (by rw [k.is]; simp) 10 (List.mem_of_mem_drop hm) rfl
  rw [lines_len, List.count_append, List.count_append, hy, hz]
  omega
/-- An earlier place is in no later line. -/
theorem find_mono (p q : Nat) (hpq : p ≤ q) : ∀ (sts : List Nat) (i n b m e : Nat), n ≤ m → n ≤ i → m ≤ i → (findL p i n b sts).1 ≤ (findL q i m e sts).1
  | [], _, _, _, _, _, h, _, _ => h
  | st :: sts, i, n, b, m, e, h, hn, hm => by
    simp only [findL]
    by_cases h1 : st ≤ p
    · rw [if_pos h1, if_pos (by omega)]
      exact find_mono p q hpq sts _ _ _ _ _ (Nat.le_refl _) (by omega) (by omega)
    · rw [if_neg h1]
      by_cases h2 : st ≤ q
      · rw [if_pos h2]
        exact find_mono p q hpq sts _ _ _ _ _ hn (by omega) (by omega)
      · rw [if_neg h2]
        exact find_mono p q hpq sts _ _ _ _ _ h (by omega) (by omega)

end Go.Proofs.YtflpihedhccdfaaGreatDoor
/-
  A splice, as the document tells it, and what the laws of layer 5 say of it, plainly. No program here.
-/
namespace Go.Proofs.YtflpihedhccdfaaGreatDoor
open Go.RowKit

structure Chg where
  fro : Nat
  old : Nat
  new : Nat
  deriving DecidableEq
def noChg : Chg := ⟨0, 0, 0⟩

/-- Is a splice right: 0 (it is), 10 (out of range), 11 (too long). -/
def errS (t : ByteArray) (p n : Int) (s : ByteArray) : Int :=
  if p < 0 ∨ p > t.size ∨ n < 0 ∨ n > t.size - p then 10 else if (t.size : Int) - n + s.size > 4000 then 11 else 0
def putS (t : ByteArray) (p n : Nat) (s : ByteArray) : ByteArray := toB (t.data.toList.take p ++ s.data.toList ++ t.data.toList.drop (p + n))
def chgS (t : ByteArray) (p n : Nat) (s : ByteArray) : Chg :=
  ⟨(foundL t.data.toList p).1, (foundL t.data.toList (p + n)).1 - (foundL t.data.toList p).1 + 1, (piecesB s).length⟩
/-- The text behind a splice, the change. -/
def textS (t : ByteArray) (p n : Int) (s : ByteArray) : ByteArray := if errS t p n s = 0 then putS t p.toNat n.toNat s else t
def doneS (t : ByteArray) (p n : Int) (s : ByteArray) : Chg := if errS t p n s = 0 then chgS t p.toNat n.toNat s else noChg

theorem err_right {t s : ByteArray} {p n : Int} (h : errS t p n s = 0) : 0 ≤ p ∧ 0 ≤ n ∧ p + n ≤ t.size ∧ (t.size : Int) - n + s.size ≤ 4000 := by
  unfold errS at h
  split at h
  · cases h
  · split at h
    · cases h
    · omega
theorem putS_size {t s : ByteArray} {p n : Nat} (h : p + n ≤ t.size) : (putS t p n s).size = t.size - n + s.size := by
  unfold putS
  rw [toB_size]
  simp only [List.length_append, List.length_take, List.length_drop, bytes_len]
  omega
theorem textS_size {t s : ByteArray} {p n : Int} (h : t.size ≤ 4000) : (textS t p n s).size ≤ 4000 := by
  unfold textS
  split
  · rename_i he
    obtain ⟨h1, h2, h3, h4⟩ := err_right he
    rw [putS_size (by omega)]
    omega
  · exact h

/-- A splice's parts: lines ahead, the line it begins in, the line it ends in, lines behind. -/
theorem splice_parts {t s : ByteArray} {p n : Nat} (h : p + n ≤ t.size) :
    ∃ (xs zs ws ys : List (List UInt8)) (y z : List UInt8) (b e : Nat),
      InLine (linesL t.data.toList) p (foundL t.data.toList p).1 b xs y ys ∧ b = (foundL t.data.toList p).2 ∧
      InLine (linesL t.data.toList) (p + n) (foundL t.data.toList (p + n)).1 e zs z ws ∧ e = (foundL t.data.toList (p + n)).2 ∧
      (foundL t.data.toList p).1 ≤ (foundL t.data.toList (p + n)).1 ∧
      linesL (putS t p n s).data.toList = xs ++ linesL (y.take (p - b) ++ s.data.toList ++ z.drop (p + n - e)) ++ ws ∧
      (linesL (y.take (p - b) ++ s.data.toList ++ z.drop (p + n - e))).length = (piecesB s).length := by
  obtain ⟨xs, y, ys, h1⟩ := found_in t.data.toList p (by rw [bytes_len]; omega)
  obtain ⟨zs, z, ws, h2⟩ := found_in t.data.toList (p + n) (by rw [bytes_len]; omega)
  refine ⟨xs, zs, ws, ys, y, z, _, _, h1, rfl, h2, rfl, find_mono p (p + n) (by omega) _ _ _ _ _ _ (Nat.le_refl _) (Nat.le_refl _) (Nat.le_refl _), splice_lines h1 h2, ?_⟩
  rw [splice_len h1 h2]
  unfold piecesB
  rw [List.length_map, lines_len]

theorem inline_get {ls : List (List UInt8)} {p n b : Nat} {xs ys : List (List UInt8)} {y : List UInt8} (h : InLine ls p n b xs y ys) : ls[n]? = some y ∧ ls.take n = xs ∧ ls.drop (n + 1) = ys ∧ n < ls.length := by
  have e := h.is
  have hn := h.num
  subst hn
  subst e
  refine ⟨by simp, by simp, ?_, by simp⟩
  rw [List.drop_append, List.drop_of_length_le (by omega)]
  simp

/-- The change tells what a splice does to the lines. -/
theorem chg_lines {t s : ByteArray} {p n : Nat} (h : p + n ≤ t.size) :
    ∃ mid, mid.length = (chgS t p n s).new ∧ piecesB (putS t p n s) = (piecesB t).take (chgS t p n s).fro ++ mid ++ (piecesB t).drop ((chgS t p n s).fro + (chgS t p n s).old) ∧
      (chgS t p n s).fro + (chgS t p n s).old ≤ (piecesB t).length ∧ 1 ≤ (chgS t p n s).old ∧ 1 ≤ (chgS t p n s).new := by
  obtain ⟨xs, zs, ws, ys, y, z, b, e, h1, _, h2, _, h3, h4, h5⟩ := splice_parts (s := s) h
  obtain ⟨_, k1, _, _⟩ := inline_get h1
  obtain ⟨_, _, k2, k3⟩ := inline_get h2
  refine ⟨(linesL (y.take (p - b) ++ s.data.toList ++ z.drop (p + n - e))).map toB, by rw [List.length_map, h5]; rfl, ?_, ?_, ?_, ?_⟩
  · have e1 : (chgS t p n s).fro + (chgS t p n s).old = (foundL t.data.toList (p + n)).1 + 1 := by
      show (foundL t.data.toList p).1 + ((foundL t.data.toList (p + n)).1 - (foundL t.data.toList p).1 + 1) = _
      omega
    rw [e1]
    show (linesL (putS t p n s).data.toList).map toB = ((linesL t.data.toList).map toB).take (foundL t.data.toList p).1 ++ _ ++ ((linesL t.data.toList).map toB).drop _
    rw [h4, ← List.map_take, ← List.map_drop, k1, k2, List.map_append, List.map_append]
  · show (foundL t.data.toList p).1 + ((foundL t.data.toList (p + n)).1 - (foundL t.data.toList p).1 + 1) ≤ ((linesL t.data.toList).map toB).length
    rw [List.length_map]
    omega
  · show 1 ≤ (foundL t.data.toList (p + n)).1 - (foundL t.data.toList p).1 + 1
    omega
  · show 1 ≤ (piecesB s).length
    unfold piecesB
    rw [List.length_map, lines_len]
    omega

/-- The lines behind the change are those that were. -/
theorem chg_keeps {t s : ByteArray} {p n : Nat} (h : p + n ≤ t.size) (i : Nat) (hi : i < (piecesB t).length) :
    (i < (chgS t p n s).fro → (piecesB (putS t p n s))[i]? = (piecesB t)[i]?) ∧
    ((chgS t p n s).fro + (chgS t p n s).old ≤ i → (piecesB (putS t p n s))[i - (chgS t p n s).old + (chgS t p n s).new]? = (piecesB t)[i]?) := by
  obtain ⟨mid, h1, h2, h3, h4, h5⟩ := chg_lines (s := s) h
  generalize chgS t p n s = c at *
  rw [h2]
  constructor
  · intro hlt
    rw [List.append_assoc, List.getElem?_append_left (by rw [List.length_take]; omega), List.getElem?_take, if_pos hlt]
  · intro hge
    rw [List.getElem?_append_right (by rw [List.length_append, List.length_take]; omega), List.getElem?_drop]
    congr 1
    rw [List.length_append, List.length_take]
    omega
theorem chg_count {t s : ByteArray} {p n : Nat} (h : p + n ≤ t.size) : (piecesB (putS t p n s)).length = (piecesB t).length - (chgS t p n s).old + (chgS t p n s).new := by
  obtain ⟨mid, h1, h2, h3, h4, h5⟩ := chg_lines (s := s) h
  rw [h2]
  simp only [List.length_append, List.length_take, List.length_drop]
  omega

/-- A text's tokens: its lines', a line end between two. -/
def endT : Tok := ⟨11, nlB, ByteArray.empty⟩
def toksOf : List ByteArray → List Tok
  | [] => []
  | [p] => dLine p
  | p :: q :: ps => dLine p ++ endT :: toksOf (q :: ps)
def tokensS (t : ByteArray) : List Tok := toksOf (piecesB t)

theorem textOf_data (l : List Tok) : (textOf l).data.toList = (l.map (fun x => x.text.data.toList)).flatten := by
  have h : ∀ (l : List Tok) (b : ByteArray), (l.foldl (fun b x => b ++ x.text) b).data.toList = b.data.toList ++ (l.map (fun x => x.text.data.toList)).flatten := by
    intro l
    induction l with
    | nil => intro b; simp
    | cons x l ih => intro b; simp only [List.foldl_cons, ih, List.map_cons, List.flatten_cons, ByteArray.data_append, Array.toList_append, List.append_assoc]
  exact h l ByteArray.empty
theorem toks_text : ∀ ps : List ByteArray, (textOf (toksOf ps)).data.toList = join10 (listsOf ps)
  | [] => rfl
  | [p] => by rw [toksOf, (line_whole p.size p (Nat.le_refl _)).1]; rfl
  | p :: q :: ps => by
    have ih := toks_text (q :: ps)
    have hp := congrArg (fun b : ByteArray => b.data.toList) (line_whole p.size p (Nat.le_refl _)).1
    simp only [textOf_data] at ih hp ⊢
    simp only [toksOf, List.map_append, List.flatten_append, List.map_cons, List.flatten_cons, hp, ih]
    rfl
theorem tokens_text (t : ByteArray) : textOf (tokensS t) = t := bytes_eq (by
  unfold tokensS
  rw [toks_text, join_pieces])

end Go.Proofs.YtflpihedhccdfaaGreatDoor
/-
  A lexer's lines in memory.
-/
namespace Go.Proofs.YtflpihedhccdfaaGreatDoor
open Go.RowKit Go.Maps

abbrev tL : TypeId := 75
theorem infoLine : (Tryz.prog.info? 75).map (fun i => (i.zero, i.size, i.bytes)) = some (some (.agg #[.string ByteArray.empty, .slice none 0 0]), 2, 40) := by kernel_rfl

/-- A line: its text, its tokens' slice. -/
structure Ln where
  text : ByteArray
  row : Option Addr
  n : Nat
  c : Nat
def Ln.cells (x : Ln) : List Value := [.string x.text, .slice x.row x.n x.c]
def Ln.val (x : Ln) : Value := .agg #[.string x.text, .slice x.row x.n x.c]
def lnCells (l : List Ln) : List Value := l.flatMap Ln.cells
theorem lnCells_length (l : List Ln) : (lnCells l).length = l.length * 2 := by
  induction l with
  | nil => rfl
  | cons x l ih => simp [lnCells, Ln.cells] at ih ⊢; omega
theorem lnCells_append (l m : List Ln) : lnCells (l ++ m) = lnCells l ++ lnCells m := by simp [lnCells]
theorem lnCells_one (x : Ln) : lnCells [x] = x.cells := by simp [lnCells]
theorem lnCells_get (l : List Ln) : ∀ (k : Nat) (x : Ln), l[k]? = some x → (lnCells l)[k * 2]? = some (.string x.text) ∧ (lnCells l)[k * 2 + 1]? = some (.slice x.row x.n x.c) := by
  induction l with
  | nil => intro k x h; simp at h
  | cons y l ih =>
    intro k x h
    have e : lnCells (y :: l) = [.string y.text, .slice y.row y.n y.c] ++ lnCells l := by simp [lnCells, Ln.cells]
    cases k with
    | zero =>
      simp at h
      subst h
      rw [e]
      exact ⟨rfl, rfl⟩
    | succ k =>
      obtain ⟨h1, h2⟩ := ih k x (by simpa using h)
      rw [e, show (k + 1) * 2 = k * 2 + 2 by omega, show k * 2 + 2 + 1 = k * 2 + 1 + 2 by omega]
      simpa using ⟨h1, h2⟩

/-- The slice value '.slice A n c' holds, in w, the lines l. -/
def HoldsL (w : World) (A : Option Addr) (l : List Ln) : Prop :=
  ∀ (k : Nat) (x : Ln), l[k]? = some x → ∃ b off, A = some ⟨b, off, none⟩ ∧ w.cell? ⟨b, off + k * 2, none⟩ = some (.string x.text) ∧ w.cell? ⟨b, off + k * 2 + 1, none⟩ = some (.slice x.row x.n x.c)
theorem HoldsL.below {w w' : World} {A : Option Addr} {l : List Ln} (h : HoldsL w A l) (hb : Below w.heap.size w w') : HoldsL w' A l := fun k x hx => by
  obtain ⟨b, off, e, h1, h2⟩ := h k x hx
  have hl : b < w.heap.size := cell_lt h1
  exact ⟨b, off, e, (hb.cell (p := ⟨b, _, none⟩) hl).trans h1, (hb.cell (p := ⟨b, _, none⟩) hl).trans h2⟩
theorem HoldsL.nil (w : World) (A : Option Addr) : HoldsL w A [] := fun k x hx => by simp at hx
theorem holdsL_of_own {w : World} {base : Nat} {e : TypeId} {v : Value} {n : Nat} {l : List Ln} (h : w.ownsRow base e 2 v n (lnCells l)) :
    ∃ A c, v = .slice A l.length c ∧ n = l.length ∧ HoldsL w A l ∧ l.length ≤ c := by
  have hn : n = l.length := by have h1 := h.1; rw [lnCells_length] at h1; omega
  subst hn
  rcases h.2 with ⟨rfl, h0⟩ | ⟨g, cap, cur, rfl, _, _, hcap, _⟩
  · have : l = [] := List.eq_nil_of_length_eq_zero h0
    subst this
    exact ⟨none, 0, rfl, rfl, HoldsL.nil _ _, Nat.le_refl _⟩
  · refine ⟨some ⟨g, 0, none⟩, cap, rfl, rfl, fun k x hx => ?_, hcap⟩
    have hc := h.cells (g := g) rfl
    obtain ⟨h1, h2⟩ := lnCells_get l k x hx
    have c1 := hc _ _ h1
    have c2 := hc _ _ h2
    have ea : ∀ j, (⟨g, 0, none⟩ : Addr).add j = ⟨g, 0 + j, none⟩ := fun j => by
      unfold Addr.add
      split
      · rename_i h; subst h; rfl
      · rfl
    rw [ea] at c1 c2
    exact ⟨g, 0, rfl, c1, by rw [Nat.add_assoc]; exact c2⟩

def startL (l : List Ln) (k : Nat) : Nat := ((l.take k).map (fun x => x.text.size + 1)).sum
theorem startL_succ {l : List Ln} {k : Nat} {x : Ln} (h : l[k]? = some x) : startL l (k + 1) = startL l k + (x.text.size + 1) := by
  obtain ⟨h1, rfl⟩ := List.getElem?_eq_some_iff.1 h
  unfold startL
  rw [List.take_add_one, List.getElem?_eq_getElem h1, List.map_append, List.sum_append]
  rfl

end Go.Proofs.YtflpihedhccdfaaGreatDoor
/-
  Where a lexer's lines begin: the iterator.
-/
namespace Go.Proofs.YtflpihedhccdfaaGreatDoor
open Go.RowKit Go.Maps

attribute [local go_sem] Oper.semAt_some

theorem begins_any (X : Addr) (w : World) :
    Calls Tryz.prog 42 #[.pointer (some X)] w fun e w' => e = .returned (.func (.func 64) #[] #[.pointer (some ⟨w.heap.size, 0, none⟩)]) ∧ w' = w.alloc (.cells #[.pointer (some X)] 84) := by
  go_enter Tryz.func42, Tryz.ntmps42
  go_wp2_with fail
  go_ret
  exact ⟨rfl, rfl⟩

theorem startL_le (l : List Ln) (k : Nat) : startL l k ≤ startL l l.length := by
  unfold startL
  rw [List.take_length]
  conv => rhs; rw [← List.take_append_drop k l]
  rw [List.map_append, List.sum_append]
  omega

set_option maxRecDepth 100000 in
set_option maxHeartbeats 8000000 in
theorem begins1_any (n : Nat) (L sb X : Nat) (A : Option Addr) (c : Nat) (l : List Ln) (J : Nat → World → Prop) (W : World) (hl : l.length ≤ 1000000) (hsz : startL l l.length ≤ 1000000)
    (hb : W.cell? ⟨sb, 0, none⟩ = some (.pointer (some ⟨X, 0, none⟩))) (hX : W.cell? ⟨X, 0, none⟩ = some (.slice A l.length c)) (h0 : J 0 W)
    (hst : ∀ k W1 W2, J k W1 → Below W1.heap.size W1 W2 → J k W2) (hH : ∀ k W1, J k W1 → HoldsL W1 A l)
    (hY : ∀ (k : Nat) (x : Ln) (W0 W1 : World), l[k]? = some x → J k W0 → W.heap.size ≤ W0.heap.size → Below W0.heap.size W0 W1 → YieldAt Fence.wide n Tryz.prog L #[.int .i64 k, .int .i64 (startL l k)] W1 fun e W' =>
      e = .returned (.bool true) ∧ J (k + 1) W' ∧ W1.heap.size ≤ W'.heap.size ∧ ∀ j, W0.heap.size ≤ j → j < W1.heap.size → W'.heap[j]? = W1.heap[j]?) :
    Calls Tryz.prog 64 #[.func (.yield L) #[] #[], .pointer (some ⟨sb, 0, none⟩)] W fun e W' => (∃ v, e = .returned v) ∧ J l.length W' := by
  have HY := Lib.hid hY
  have HST := Lib.hid hst
  have HH := Lib.hid hH
  have H0 := Lib.hid h0
  clear hY hst hH h0
  have lb := cell_lt hb
  have lx := cell_lt hX
  generalize hn : W.heap.size = n0 at *
  go_enter Tryz.func64, Tryz.ntmps64
  go_wp2_with fail
  go_step3
  go_wp2_with fail
  go_step3
  go_wp2_with fail
  go_loopw [3, 11] (fun at_ i wr => ∃ (k : Nat), k ≤ l.length ∧ i = .int .i64 k ∧ at_ = .int .i64 (startL l k) ∧ Hid (J k wr) ∧ n0 ≤ wr.heap.size) (fun _ i _ => l.length - (intOf i).toNat)
  case atStart => exact ⟨0, by omega, rfl, rfl, H0, by omega⟩
  case round =>
    obtain ⟨k, hk, rfl, rfl, HJ, hz⟩ := hrel
    by_cases hlt : k < l.length
    · have hx := List.getElem?_eq_getElem hlt
      obtain ⟨b, off, rfl, c1, c2⟩ := HH.out _ _ HJ.out k l[k] hx
      have hsucc := startL_succ hx
      have hle := startL_le l (k + 1)
      generalize l[k] = x at *
      have HX := Lib.hid hx
      have HS := Lib.hid hsucc
      clear hx
      go_upto_region 4 with fail
      have hX3 := heap_alloc_new wr (.cells #[.string x.text, .slice x.row x.n x.c] 75)
      have hB3 := below_new wr (.cells #[.string x.text, .slice x.row x.n x.c] 75)
      have hz3 : (wr.alloc (.cells #[.string x.text, .slice x.row x.n x.c] 75)).heap.size = wr.heap.size + 1 := by simp
      generalize wr.alloc (.cells #[.string x.text, .slice x.row x.n x.c] 75) = w3 at *
      obtain ⟨fn, tmps, assign, body, hy, hRd⟩ := HY.out k x wr w3 HX.out HJ.out hz hB3
      have HRo := Lib.hid hRd
      have HX3 := Lib.hid hX3
      clear hRd hX3 hB3 HJ
      refine (wpIn_wide (n := n + 1)).1 ?_
      gi_wp2_with fail
      refine HRo.out.mono ?_
      rintro e w4 ⟨rfl, hJ4, hz34, hA4⟩
      have hX4 := (hA4 wr.heap.size (by omega) (by omega)).trans HX3.out
      have y0 : w4.cell? ⟨wr.heap.size, 0, none⟩ = some (.string x.text) := by simp [World.cell?, hX4]
      have HJ4 := Lib.hid hJ4
      clear hX4 hA4 hJ4 HX3 HRo c1 c2
      gi_wp2_with fail
      go_wp2_with fail
      go_roundw
      case rel => exact ⟨k + 1, by omega, by go_num, by rw [HS.out]; go_num, HJ4, by omega⟩
      case measure => simp [intOf]; omega
    · obtain rfl : k = l.length := by omega
      go_wp2_with fail
      try rw [Exit.noGoto_normal]
      go_end0
      exact ⟨⟨_, rfl⟩, HJ.out⟩
end Go.Proofs.YtflpihedhccdfaaGreatDoor
/-
  The line in which a place is: by the program.
-/
namespace Go.Proofs.YtflpihedhccdfaaGreatDoor
open Go.RowKit Go.Maps

attribute [local go_sem] Oper.semAt_some

/-- The last of the first k lines that begins no later, and where it begins. -/
def findUp (p : Nat) (l : List Ln) : Nat → Nat × Nat
  | 0 => (0, 0)
  | k + 1 => if startL l k ≤ p then (k, startL l k) else findUp p l k

/-- What the loop over the lines holds. -/
structure InAt (w : World) (p : Nat) (l : List Ln) (L D : Nat) (r : Loop) (k : Nat) (W : World) : Prop where
  low : Below w.heap.size w W
  place : W.heap[w.heap.size]? = some (.cells #[.int .i64 (p : Int)] 3 (0, 0))
  num : W.heap[w.heap.size + 1]? = some (.cells #[.int .i64 ((findUp p l k).1 : Int)] 3 (0, 0))
  beg : W.heap[w.heap.size + 2]? = some (.cells #[.int .i64 ((findUp p l k).2 : Int)] 3 (0, 0))
  books : Books L D r W
theorem InAt.below {w W W' : World} {p : Nat} {l : List Ln} {L D : Nat} {r : Loop} {k : Nat} (h : InAt w p l L D r k W) (hb : Below W.heap.size W W') : InAt w p l L D r k W' :=
  have kk : ∀ j o, W.heap[j]? = some o → W'.heap[j]? = some o := fun j o e => (hb.block _ (Array.getElem?_eq_some_iff.1 e).1).trans e
  ⟨h.low.trans (hb.mono h.low.size), kk _ _ h.place, kk _ _ h.num, kk _ _ h.beg, ⟨kk _ _ h.books.lp, kk _ _ h.books.calls, h.books.ne⟩⟩

set_option maxRecDepth 100000 in
set_option maxHeartbeats 8000000 in
theorem find_any (p X : Nat) (A : Option Addr) (c : Nat) (l : List Ln) (w : World) (hl : l.length ≤ 1000000) (hsz : startL l l.length ≤ 1000000) (hp : p ≤ 1000000)
    (hX : w.cell? ⟨X, 0, none⟩ = some (.slice A l.length c)) (hH : HoldsL w A l) :
    Calls Tryz.prog 30 #[.pointer (some ⟨X, 0, none⟩), .int .i64 (p : Int)] w fun e w' => e = .returned (.tuple #[.int .i64 ((findUp p l l.length).1 : Int), .int .i64 ((findUp p l l.length).2 : Int)]) ∧ Below w.heap.size w w' := by
  have lX := cell_lt hX
  have h1 := below_new w (.cells #[.int .i64 (p : Int)] 3)
  refine calls_of_wp_marks 3 Tryz.func30 rfl ?_
  simp only [Tryz.ntmps30, List.size_toArray, List.length_cons, List.length_nil, Nat.reduceAdd, Nat.reduceSub, Array.replicate_succ, Array.replicate_zero, List.push_toArray, List.append_toArray, List.nil_append, List.cons_append]
  go_wp2_with fail
  refine (begins_any _ _).mono ?_
  rintro e w2 ⟨rfl, rfl⟩
  go_wp2_with fail
  obtain ⟨V, hV⟩ : ∃ V, (((w.alloc (.cells #[.int .i64 (p : Int)] 3)).alloc (.cells #[.int .i64 0] 3)).alloc (.cells #[.int .i64 0] 3)).alloc (.cells #[.pointer (some ⟨X, 0, none⟩)] 84) = V := ⟨_, rfl⟩
  have hzV : V.heap.size = w.heap.size + 4 := by rw [← hV]; simp
  have hA0 := heap_alloc_new w (.cells #[.int .i64 (p : Int)] 3)
  have hA1 := heap_alloc_new (w.alloc (.cells #[.int .i64 (p : Int)] 3)) (.cells #[.int .i64 0] 3)
  have hA2 := heap_alloc_new ((w.alloc (.cells #[.int .i64 (p : Int)] 3)).alloc (.cells #[.int .i64 0] 3)) (.cells #[.int .i64 0] 3)
  have hA3 := heap_alloc_new (((w.alloc (.cells #[.int .i64 (p : Int)] 3)).alloc (.cells #[.int .i64 0] 3)).alloc (.cells #[.int .i64 0] 3)) (.cells #[.pointer (some ⟨X, 0, none⟩)] 84)
  have hb1 := below_new (w.alloc (.cells #[.int .i64 (p : Int)] 3)) (.cells #[.int .i64 0] 3)
  have hb2 := below_new ((w.alloc (.cells #[.int .i64 (p : Int)] 3)).alloc (.cells #[.int .i64 0] 3)) (.cells #[.int .i64 0] 3)
  have hb3 := below_new (((w.alloc (.cells #[.int .i64 (p : Int)] 3)).alloc (.cells #[.int .i64 0] 3)).alloc (.cells #[.int .i64 0] 3)) (.cells #[.pointer (some ⟨X, 0, none⟩)] 84)
  simp only [World.size_alloc] at hA1 hA2 hA3 hb1 hb2 hb3
  rw [hV] at hA3 hb3
  have hP0 := (hb3.block w.heap.size (by omega)).trans ((hb2.block w.heap.size (by omega)).trans ((hb1.block w.heap.size (by omega)).trans hA0))
  have hP1 := (hb3.block (w.heap.size + 1) (by omega)).trans ((hb2.block (w.heap.size + 1) (by omega)).trans hA1)
  have hP2 := (hb3.block (w.heap.size + 1 + 1) (by omega)).trans hA2
  have hLV : Below w.heap.size w V := ((h1.trans (hb1.mono (by omega))).trans (hb2.mono (by omega))).trans (hb3.mono (by omega))
  try rw [hV]
  clear hV hA0 hA1 hA2 hb1 hb2 hb3 h1
  refine wpIn_wide.1 (range_joint (n := 3) (F := Fence.wide) rfl (by omega) (gf := 64) (lb := #[.pointer (some ⟨w.heap.size + 1 + 1 + 1, 0, none⟩)]) rfl trivial (enters_of Tryz.func64 (by kernel_rfl) rfl) ?_)
  intro fn r W hfn hr hW hBk
  have hVW : Below V.heap.size V W := by rw [hW]; exact ((Below.refl _ V).alloc (Nat.le_refl _) _).alloc (by simp) _
  have hzW : W.heap.size = w.heap.size + 6 := by rw [hW]; simp; omega
  rw [hzV] at hBk hVW ⊢
  have hwW : Below w.heap.size w W := hLV.trans (hVW.mono (by omega))
  have hF0 : InAt w p l (w.heap.size + 4 + 1) (w.heap.size + 4) r 0 W := ⟨hwW, (hVW.block _ (by omega)).trans hP0, (hVW.block _ (by omega)).trans hP1, (hVW.block _ (by omega)).trans hP2, hBk⟩
  have hS3 := (hVW.block (w.heap.size + 1 + 1 + 1) (by omega)).trans hA3
  have hS : W.cell? ⟨w.heap.size + 1 + 1 + 1, 0, none⟩ = some (.pointer (some ⟨X, 0, none⟩)) := by simp [World.cell?, hS3]
  have hXW := (hwW.cell (p := ⟨X, 0, none⟩) lX).trans hX
  refine callsIn_wide.2 ((begins1_any 2 (w.heap.size + 4 + 1) (w.heap.size + 1 + 1 + 1) X A c l (fun k W' => InAt w p l (w.heap.size + 4 + 1) (w.heap.size + 4) r k W') W hl hsz hS hXW hF0 ?hStays ?hHolds ?hRounds).mono ?_)
  case hStays => exact fun k W1 W2 h hb => h.below hb
  case hHolds => exact fun k W1 h => hH.below h.low
  case hRounds =>
    intro k x W0 W5 hx h0 hz0 hb05
    have hF5 := h0.below hb05
    have r1 : r.state = .ready := by rw [hr]
    have r2 : r.pending = none := by rw [hr]
    have r3 : r.params.size = 2 := by rw [hr]; rfl
    have hz5 := hb05.size
    have hst := startL_le l k
    obtain ⟨W6, hW6⟩ : ∃ W6, W5.putObj (w.heap.size + 4 + 1) (.loop { r with state := .busy }) = W6 := ⟨_, rfl⟩
    have ho6 : ∀ j, j ≠ w.heap.size + 4 + 1 → W6.heap[j]? = W5.heap[j]? := fun j hj => by rw [← hW6]; exact World.putObj_heap_other hj
    have hz6 : W6.heap.size = W5.heap.size := by rw [← hW6]; simp [World.putObj]
    have p6 := (ho6 w.heap.size (by omega)).trans hF5.place
    have n6 := (ho6 (w.heap.size + 1) (by omega)).trans hF5.num
    have b6 := (ho6 (w.heap.size + 2) (by omega)).trans hF5.beg
    refine (round_joint (F := Fence.wide) (n := 2) (args := #[.int .i64 k, .int .i64 (startL l k)])
      (Post := fun W3 => W3.heap[w.heap.size + 1]? = some (.cells #[.int .i64 ((findUp p l (k + 1)).1 : Int)] 3 (0, 0)) ∧ W3.heap[w.heap.size + 2]? = some (.cells #[.int .i64 ((findUp p l (k + 1)).2 : Int)] 3 (0, 0)) ∧ Below w.heap.size W6 W3 ∧ W3.heap.size = W6.heap.size ∧
        (∀ j, j ≠ w.heap.size + 1 → j ≠ w.heap.size + 2 → W3.heap[j]? = W6.heap[j]?)) trivial hF5.books r1 r2 (by rw [r3]; rfl) ?_).mono ?_
    · have HW6 := Lib.hid hW6
      have HP6 := Lib.hid p6
      have HN6 := Lib.hid n6
      have HB6 := Lib.hid b6
      have c0 : W6.cell? ⟨w.heap.size, 0, none⟩ = some (.int .i64 (p : Int)) := by simp [World.cell?, p6]
      have z1 : W6.frozen? ⟨w.heap.size + 1, 0, none⟩ = false := frozen_of_row W6 _ 0 _ _ n6
      have z2 : W6.frozen? ⟨w.heap.size + 1 + 1, 0, none⟩ = false := frozen_of_row W6 _ 0 _ _ b6
      have c1 : W6.cell? ⟨w.heap.size + 1, 0, none⟩ = some (.int .i64 ((findUp p l k).1 : Int)) := by simp [World.cell?, n6]
      have c2 : W6.cell? ⟨w.heap.size + 1 + 1, 0, none⟩ = some (.int .i64 ((findUp p l k).2 : Int)) := by simp [World.cell?, b6]
      have L6 := Lib.hid (Array.getElem?_eq_some_iff.1 b6).1
      have HF : Hid (findUp p l (k + 1) = if startL l k ≤ p then (k, startL l k) else findUp p l k) := Lib.hid rfl
      clear hW6 ho6 hz6 p6 n6 b6 hF5 h0 hb05 hz5 hS hS3 hXW hF0 hwW hVW hBk hW hP0 hP1 hP2 hLV hA3 hzV hzW r1 r2 r3
      subst hr
      generalize findUp p l (k + 1) = F2 at *
      generalize findUp p l k = F1 at *
      generalize startL l k = st at *
      by_cases hle : st ≤ p
      · have hF2 : F2 = (k, st) := by rw [HF.out, if_pos hle]
        subst hF2
        gi_wp2_with fail
        refine ⟨KeepsOthers.refl _, ?_⟩
        rw [HW6.out]
        clear HW6
        gi_wp2_with fail
        have e1 := heap_setCell_same W6 (w.heap.size + 1) 0 _ _ (.int .i64 (k : Int)) HN6.out
        have e2 : (W6.setCell ⟨w.heap.size + 1, 0, none⟩ (.int .i64 (k : Int))).heap[w.heap.size + 1 + 1]? = _ := (heap_setCell_other W6 ⟨w.heap.size + 1, 0, none⟩ _ _ (by simp)).trans HB6.out
        refine ⟨(KeepsOthers.setCell _ _ _).trans (KeepsOthers.setCell _ _ _), ?_, ?_, ?_, fun j hj1 hj2 => ?_⟩
        · refine (heap_setCell_other _ _ _ _ (by simp)).trans (e1.trans ?_)
          simp
        · refine (heap_setCell_same _ (w.heap.size + 1 + 1) 0 _ _ _ e2).trans ?_
          simp
        · exact ((Below.refl _ _).setCell (p := ⟨w.heap.size + 1, 0, none⟩) (by simp) _).setCell (p := ⟨w.heap.size + 1 + 1, 0, none⟩) (by simp; omega) _
        · exact (heap_setCell_other _ _ _ _ hj2).trans (heap_setCell_other _ _ _ _ hj1)
      · have hF2 : F2 = F1 := by rw [HF.out, if_neg hle]
        subst hF2
        gi_wp2_with fail
        refine ⟨KeepsOthers.refl _, ?_⟩
        rw [HW6.out]
        clear HW6
        gi_wp2_with fail
        exact ⟨KeepsOthers.refl _, HN6.out, HB6.out, Below.refl _ _⟩
    · rintro e W' ⟨rfl, hB', W3, hB3, rfl, hn3, hb3, hlow3, hz3, hk3⟩
      have hoP : ∀ j, j ≠ w.heap.size + 4 + 1 → (W3.putObj (w.heap.size + 4 + 1) (.loop r)).heap[j]? = W3.heap[j]? := fun j hj => World.putObj_heap_other hj
      have hbP : Below w.heap.size W3 (W3.putObj (w.heap.size + 4 + 1) (.loop r)) := ⟨rfl, rfl, rfl, by simp [World.putObj], fun k hk => hoP k (by omega)⟩
      have hb56 : Below w.heap.size W5 W6 := by rw [← hW6]; exact ⟨rfl, rfl, rfl, by simp [World.putObj], fun k hk => World.putObj_heap_other (show k ≠ w.heap.size + 4 + 1 by omega)⟩
      refine ⟨rfl, ⟨((hF5.low.trans hb56).trans hlow3).trans hbP, (hoP _ (by omega)).trans ((hk3 _ (by omega) (by omega)).trans p6), (hoP _ (by omega)).trans hn3, (hoP _ (by omega)).trans hb3, hB'⟩, ?_, fun j hj1 hj2 => ?_⟩
      · simp [World.putObj]; omega
      · exact (hoP j (by omega)).trans ((hk3 j (by omega) (by omega)).trans (ho6 j (by omega)))
  · rintro e W' ⟨hv, hF⟩
    refine ⟨hv, hF.books, ?_⟩
    have hput : ∀ j, j ≠ w.heap.size + 4 + 1 → (W'.putObj (w.heap.size + 4 + 1) (.loop { r with state := .exhausted })).heap[j]? = W'.heap[j]? := fun j hj => World.putObj_heap_other hj
    have hbP : Below w.heap.size W' (W'.putObj (w.heap.size + 4 + 1) (.loop { r with state := .exhausted })) := ⟨rfl, rfl, rfl, by simp [World.putObj], fun k hk => hput k (by omega)⟩
    have hD8 := (hput (w.heap.size + 4) (by omega)).trans hF.books.calls
    have hn8 := (hput (w.heap.size + 1) (by omega)).trans hF.num
    have hb8 := (hput (w.heap.size + 2) (by omega)).trans hF.beg
    have HB8 := Lib.hid (hF.low.trans hbP)
    generalize W'.putObj (w.heap.size + 4 + 1) (.loop { r with state := .exhausted }) = W8 at *
    have c8 : W8.cell? ⟨w.heap.size + 1, 0, none⟩ = some (.int .i64 ((findUp p l l.length).1 : Int)) := by simp [World.cell?, hn8]
    have d8 : W8.cell? ⟨w.heap.size + 1 + 1, 0, none⟩ = some (.int .i64 ((findUp p l l.length).2 : Int)) := by simp [World.cell?, hb8]
    clear hput hbP hF hS3 hXW hF0 hwW hVW hr hBk hW hP0 hP1 hP2 hLV hA3 hS
    go_wp2_with fail
    go_region
    go_wp2_with fail
    refine ⟨by simp, .inl ⟨_, _, rfl, run_takeDeferred hD8, ?_⟩⟩
    refine ⟨_, results_tmp2 rfl _ _ _, rfl, ?_⟩
    exact HB8.out.drew.trans ⟨rfl, rfl, rfl, by simp [World.putObj], fun k hk => World.putObj_heap_other (show k ≠ w.heap.size + 4 by omega)⟩
end Go.Proofs.YtflpihedhccdfaaGreatDoor
