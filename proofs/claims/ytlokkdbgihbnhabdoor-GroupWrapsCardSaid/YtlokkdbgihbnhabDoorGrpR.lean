/-
  Brackets of tokens, plainly: what matches, the parts, what is inside; what the statements ask of them. No program here.
-/
import Derived.Test.YtlokkdbgihbnhabDoorGrpQ
set_option linter.unusedSimpArgs false
set_option linter.unusedVariables false
namespace Go.Proofs.YtlokkdbgihbnhabDoor
open Go.RowKit

structure Tok where
  kind : Int
  text : ByteArray
  glyph : ByteArray
deriving DecidableEq

def gPar : ByteArray := ⟨#[40]⟩
def gPas : ByteArray := ⟨#[41]⟩
def gCur : ByteArray := ⟨#[123]⟩
def gCus : ByteArray := ⟨#[125]⟩

def Tok.isSign (x : Tok) (g : ByteArray) : Bool := decide (x.kind = 8) && decide (x.glyph = g)
/-- Which bracket a token is. -/
def Tok.br (x : Tok) : Option (Bool × Bool) :=
  if x.kind = 8 then (if x.glyph = gPar then some (true, true) else if x.glyph = gCur then some (true, false) else if x.glyph = gPas then some (false, true) else if x.glyph = gCus then some (false, false) else none) else none

def brs (l : List Tok) : List (Option (Bool × Bool)) := l.map Tok.br

/-- What is told of a list's brackets. -/
def codeOf (l : List Tok) : Int :=
  match Brs.none0.run (brs l) with
  | none => 60
  | some s => if s.stack = [] then (if 20 < s.most then 61 else 0) else 60
def brsOf (l : List Tok) : Brs := (Brs.none0.run (brs l)).getD .none0

theorem brs_len (l : List Tok) : (brs l).length = l.length := by simp [brs]
theorem brs_app (l m : List Tok) : brs (l ++ m) = brs l ++ brs m := by simp [brs]

theorem codeOf_ok {l : List Tok} (h : codeOf l = 0) : Brs.none0.run (brs l) = some (brsOf l) ∧ (brsOf l).stack = [] ∧ (brsOf l).most ≤ 20 := by
  unfold codeOf at h
  unfold brsOf
  cases hr : Brs.none0.run (brs l) with
  | none => rw [hr] at h; simp at h
  | some s =>
    rw [hr] at h
    simp only [Option.getD_some] at h ⊢
    split at h
    · rename_i h1
      split at h
      · cases h
      · exact ⟨trivial, h1, by omega⟩
    · cases h

theorem codeOf_of {l : List Tok} {s : Brs} (hr : Brs.none0.run (brs l) = some s) (hs : s.stack = []) : brsOf l = s ∧ codeOf l = if 20 < s.most then 61 else 0 := by
  unfold codeOf brsOf
  rw [hr]
  simp [hs]

theorem codeOf_ways (l : List Tok) : codeOf l = 0 ∨ codeOf l = 60 ∨ codeOf l = 61 := by
  unfold codeOf
  split
  · simp
  · split
    · split <;> simp
    · simp

theorem brsOf_len {l : List Tok} (h : codeOf l = 0) : (brsOf l).pairs.length = l.length ∧ (brsOf l).deeps.length = l.length := by
  have := fine_of_run (codeOf_ok h).1
  exact ⟨this.len.trans (brs_len l), this.lenD.trans (brs_len l)⟩

/-! ### One list behind the other -/
theorem joins_law {l m : List Tok} (hl : codeOf l = 0) (hm : codeOf m = 0) :
    codeOf (l ++ m) = 0 ∧ (brsOf (l ++ m)).pairs = (brsOf l).pairs ++ (brsOf m).pairs.map (fun p => if p < 0 then p else p + (l.length : Int)) := by
  obtain ⟨a1, a2, a3⟩ := codeOf_ok hl
  obtain ⟨b1, b2, b3⟩ := codeOf_ok hm
  obtain ⟨n1, n2⟩ := brsOf_len hl
  obtain ⟨T, e1, e2⟩ := (Brs.Over.begin (k := l.length) (S := brsOf l) n1 a2 rfl rfl rfl (by simp)).run b1
  have hr : Brs.none0.run (brs (l ++ m)) = some T := by rw [brs_app, Brs.run_append, a1]; exact e1
  have hs : T.stack = [] := by rw [e2.stack, b2]; rfl
  obtain ⟨c1, c2⟩ := codeOf_of hr hs
  rw [c1, c2]
  refine ⟨?_, e2.pairs⟩
  rw [if_neg]
  rw [e2.most]
  simp
  omega

/-! ### In brackets -/
theorem wraps_law {l : List Tok} {x y : Tok} (hx : x.br = some (true, true)) (hy : y.br = some (false, true)) {s : Brs} (hr : Brs.none0.run (brs l) = some s) (hs : s.stack = []) :
    codeOf (x :: l ++ [y]) = (if 20 < s.most + 1 then 61 else 0) ∧ (brsOf (x :: l ++ [y])).deeps = 0 :: s.deeps.map (· + 1) ++ [0] ∧ (brsOf (x :: l ++ [y])).pairs.getD 0 (-1) = (l.length : Int) + 1 := by
  have hn := fine_of_run hr
  have h0 : Brs.none0.step (some (true, true)) = some ⟨[(0, true)], [-1], [0], 1⟩ := rfl
  obtain ⟨T, e1, e2⟩ := (Brs.Over.begin (k := 1) (B := [(0, true)]) (P := [-1]) (D := [0]) (M := 1) (S := ⟨[(0, true)], [-1], [0], 1⟩) rfl rfl rfl rfl rfl (by simp)).run hr
  have tS : T.stack = [(0, true)] := by rw [e2.stack, hs]; rfl
  have tP : T.pairs = -1 :: s.pairs.map (fun p => if p < 0 then p else p + (1 : Int)) := e2.pairs
  have tD : T.deeps = 0 :: s.deeps.map (· + 1) := e2.deeps
  have tM : T.most = max 1 (s.most + 1) := e2.most
  have tL : T.pairs.length = l.length + 1 := by rw [tP]; simp [hn.len, brs_len]
  have h9 : T.step (some (false, true)) = some ⟨[], T.pairs.set 0 T.pairs.length ++ [((0 : Nat) : Int)], T.deeps ++ [0], T.most⟩ := by simp [Brs.step, tS]
  have hrun : Brs.none0.run (brs (x :: l ++ [y])) = some ⟨[], T.pairs.set 0 T.pairs.length ++ [((0 : Nat) : Int)], T.deeps ++ [0], T.most⟩ := by
    have : brs (x :: l ++ [y]) = some (true, true) :: (brs l ++ [some (false, true)]) := by simp [brs, hx, hy]
    rw [this, Brs.run, h0, Option.bind_some, Brs.run_append, e1, Option.bind_some, Brs.run_one, h9]
  obtain ⟨c1, c2⟩ := codeOf_of hrun rfl
  rw [c1, c2]
  refine ⟨?_, by simp [tD], ?_⟩
  · simp only [tM]
    have : (20 < max 1 (s.most + 1)) ↔ 20 < s.most + 1 := by omega
    simp only [this]
  · simp only [tP] at tL ⊢
    simp
    simp at tL
    exact_mod_cast tL

theorem wraps_none {l : List Tok} {x y : Tok} (hx : x.br = some (true, true)) (hy : y.br = some (false, true)) (h : codeOf l = 61) : codeOf (x :: l ++ [y]) = 61 := by
  unfold codeOf at h
  cases hr : Brs.none0.run (brs l) with
  | none => rw [hr] at h; simp at h
  | some s =>
    rw [hr] at h
    simp only at h
    split at h
    · rename_i h1
      split at h
      · rw [(wraps_law hx hy hr h1).1, if_pos (by omega)]
      · cases h
    · cases h

/-! ### Partners -/
/-- What lies between two places. -/
def between2 (l : List Tok) (a b : Nat) : List Tok := (l.drop (a + 1)).take (b - (a + 1))

theorem partners_law {l : List Tok} (h : codeOf l = 0) {i : Nat} (hi : i < l.length) (hp : (brsOf l).pr i ≠ -1) : ∃ j : Nat, (brsOf l).pr i = j ∧ j < l.length ∧ j ≠ i ∧ (brsOf l).pr j = i ∧
    (brsOf l).dp j = (brsOf l).dp i ∧ (∀ k, min i j < k → k < max i j → (brsOf l).dp i < (brsOf l).dp k) ∧ codeOf (between2 l (min i j) (max i j)) = 0 := by
  obtain ⟨h1, h2, h3⟩ := codeOf_ok h
  have hf := fine_of_run h1
  rcases hf.prs i (by rw [brs_len]; exact hi) with e | ⟨j, e1, e2, e3, e4, e5, e6, l1, mid, l3, x, y, hl, q1, q2, t, t1, t2, t3⟩
  · exact absurd e hp
  · rw [brs_len] at e2
    have hd : (brsOf l).dp j = (brsOf l).dp i ∧ (brsOf l).dp i = (brsOf l).dp (min i j) := by
      rcases Nat.lt_or_ge i j with h | h
      · rw [Nat.min_eq_left (by omega), Nat.max_eq_right (by omega)] at e5
        rw [Nat.min_eq_left (by omega)]
        exact ⟨e5.symm, rfl⟩
      · rw [Nat.min_eq_right h, Nat.max_eq_left h] at e5
        rw [Nat.min_eq_right h]
        exact ⟨e5, e5.symm⟩
    refine ⟨j, e1, e2, e3, e4, hd.1, fun k h1 h2 => by rw [hd.2]; exact e6 k h1 h2, ?_⟩
    have hb : brs (between2 l (min i j) (max i j)) = mid := by
      unfold between2
      unfold brs at hl ⊢
      rw [List.map_take, List.map_drop, hl]
      have a1 : min i j + 1 = (l1 ++ [x]).length := by simp [q1]
      have a2 : max i j - (min i j + 1) = mid.length := by omega
      have a3 : l1 ++ x :: mid ++ y :: l3 = (l1 ++ [x]) ++ (mid ++ y :: l3) := by simp
      rw [a3, a1, List.drop_left, ← a1, a2, List.take_left]
    have t1' : Brs.none0.run (brs (between2 l (min i j) (max i j))) = some t := by rw [hb]; exact t1
    rw [(codeOf_of t1' t2).2, if_neg (by omega)]

/-! ### Parts -/
/-- The parts between signs that are 0 deep; 'cur' is what the part that is begun has. -/
def splitGo (g : ByteArray) : List Tok → List Nat → List Tok → List (List Tok)
  | x :: l, d :: ds, cur => if d = 0 ∧ x.isSign g = true ∧ x.br = none then cur :: splitGo g l ds [] else splitGo g l ds (cur ++ [x])
  | _, _, cur => [cur]

def splitOf (l : List Tok) (g : ByteArray) : List (List Tok) := splitGo g l (brsOf l).deeps []
end Go.Proofs.YtlokkdbgihbnhabDoor
