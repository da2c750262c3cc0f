/-
  Slices of tokens in memory; rows that a call makes. No program here.
-/
import Derived.Test.YtflpihedhccdfaaGreatDoorProg
import Derived.Test.YtflpihedhccdfaaGreatDoorReg
import Derived.WalkKit
import Derived.WalkSpells
import Derived.WalkLawsBesides
import Derived.Lib.Hide
import Derived.Lib.MinMax
import Derived.Deep.QuietTactic
import Derived.BigQuiet
import Derived.OwnWalk
import Derived.Deep.AppendLies
import Derived.KernelRfl
import Derived.Below
import Derived.Laws.OwnMore
import Derived.Deep.Draws
import Derived.Deep.AppendLies
import Derived.Test.YtflpihedhccdfaaGreatDoorLxM1
import Derived.Laws.RangeAny
import Derived.Shelf.Abstract
set_option linter.unusedSimpArgs false
set_option linter.unusedVariables false
namespace Go.Proofs.YtflpihedhccdfaaGreatDoor
open Go.RowKit

def Tok.cells (x : Tok) : List Value := [.int .i64 x.kind, .string x.text, .string x.glyph]
def Tok.val (x : Tok) : Value := .agg #[.int .i64 x.kind, .string x.text, .string x.glyph]

/-- The slice value '.slice A n c' holds, in w, the tokens l. -/
def HoldsT (w : World) (A : Option Addr) (l : List Tok) : Prop :=
  ∀ (k : Nat) (x : Tok), l[k]? = some x → ∃ b off, A = some ⟨b, off, none⟩ ∧ w.cell? ⟨b, off + k * 3, none⟩ = some (.int .i64 x.kind) ∧
    w.cell? ⟨b, off + k * 3 + 1, none⟩ = some (.string x.text) ∧ w.cell? ⟨b, off + k * 3 + 2, none⟩ = some (.string x.glyph)
/-- .. the numbers l. -/
def HoldsI (w : World) (A : Option Addr) (l : List Int) : Prop :=
  ∀ (k : Nat) (x : Int), l[k]? = some x → ∃ b off, A = some ⟨b, off, none⟩ ∧ w.cell? ⟨b, off + k, none⟩ = some (.int .i64 x)

theorem cell_lt {w : World} {p : Addr} {v : Value} (h : w.cell? p = some v) : p.block < w.heap.size := by
  rcases Nat.lt_or_ge p.block w.heap.size with h1 | h1
  · exact h1
  · simp [World.cell?, Array.getElem?_eq_none h1] at h

theorem HoldsT.below {w w' : World} {A : Option Addr} {l : List Tok} (h : HoldsT w A l) (hb : Below w.heap.size w w') : HoldsT w' A l := fun k x hx => by
  obtain ⟨b, off, e, h1, h2, h3⟩ := h k x hx
  have hl : b < w.heap.size := cell_lt h1
  exact ⟨b, off, e, (hb.cell (p := ⟨b, _, none⟩) hl).trans h1, (hb.cell (p := ⟨b, _, none⟩) hl).trans h2, (hb.cell (p := ⟨b, _, none⟩) hl).trans h3⟩
theorem HoldsI.below {w w' : World} {A : Option Addr} {l : List Int} (h : HoldsI w A l) (hb : Below w.heap.size w w') : HoldsI w' A l := fun k x hx => by
  obtain ⟨b, off, e, h1⟩ := h k x hx
  have hl : b < w.heap.size := cell_lt h1
  exact ⟨b, off, e, (hb.cell (p := ⟨b, _, none⟩) hl).trans h1⟩
theorem HoldsT.drewN {w : World} {A : Option Addr} {l : List Tok} (h : HoldsT w A l) (n : Nat) : HoldsT (w.drewN n) A l := h
theorem HoldsI.drewN {w : World} {A : Option Addr} {l : List Int} (h : HoldsI w A l) (n : Nat) : HoldsI (w.drewN n) A l := h
theorem HoldsT.nil (w : World) (A : Option Addr) : HoldsT w A [] := fun k x hx => by simp at hx
theorem HoldsI.nil (w : World) (A : Option Addr) : HoldsI w A [] := fun k x hx => by simp at hx

theorem below_drewN {B : Nat} {a w : World} (h : Below B a w) (n : Nat) : Below B a (w.drewN n) := ⟨h.os, h.tape, h.output, h.size, h.block⟩

def tokCells (l : List Tok) : List Value := l.flatMap Tok.cells
def intCells (l : List Int) : List Value := l.map (Value.int .i64)
theorem tokCells_length (l : List Tok) : (tokCells l).length = l.length * 3 := by
  induction l with
  | nil => rfl
  | cons x l ih => simp [tokCells, Tok.cells] at ih ⊢; omega
theorem tokCells_append (l m : List Tok) : tokCells (l ++ m) = tokCells l ++ tokCells m := by simp [tokCells]
theorem tokCells_one (x : Tok) : tokCells [x] = x.cells := by simp [tokCells]
theorem intCells_length (l : List Int) : (intCells l).length = l.length := by simp [intCells]
theorem intCells_append (l m : List Int) : intCells (l ++ m) = intCells l ++ intCells m := by simp [intCells]
theorem intCells_one (x : Int) : intCells [x] = [.int .i64 x] := rfl

theorem ownBlock_ge {w : World} {base : Nat} {e : TypeId} {size : Nat} {v : Value} {n : Nat} {xs : List Value} (h : w.ownsRow base e size v n xs) : ∀ k, v.ownBlock = some k → base ≤ k := by
  intro k hk
  rcases h.2 with ⟨rfl, _⟩ | ⟨g, cap, cur, rfl, hg, _⟩
  · simp [Value.ownBlock] at hk
  · simp [Value.ownBlock] at hk
    omega
theorem ownBlock_lt {w : World} {base : Nat} {e : TypeId} {size : Nat} {v : Value} {n : Nat} {xs : List Value} (h : w.ownsRow base e size v n xs) : ∀ k, v.ownBlock = some k → k < w.heap.size := by
  intro k hk
  rcases h.2 with ⟨rfl, _⟩ | ⟨g, cap, cur, rfl, hg, hh, _⟩
  · simp [Value.ownBlock] at hk
  · simp [Value.ownBlock] at hk
    subst hk
    rcases Nat.lt_or_ge g w.heap.size with h1 | h1
    · exact h1
    · rw [Array.getElem?_eq_none h1] at hh; cases hh

theorem tokCells_get (l : List Tok) : ∀ (k : Nat) (x : Tok), l[k]? = some x → (tokCells l)[k * 3]? = some (.int .i64 x.kind) ∧ (tokCells l)[k * 3 + 1]? = some (.string x.text) ∧ (tokCells l)[k * 3 + 2]? = some (.string x.glyph) := by
  induction l with
  | nil => intro k x h; simp at h
  | cons y l ih =>
    intro k x h
    have e : tokCells (y :: l) = [.int .i64 y.kind, .string y.text, .string y.glyph] ++ tokCells l := by simp [tokCells, Tok.cells]
    cases k with
    | zero =>
      simp at h
      subst h
      rw [e]
      exact ⟨rfl, rfl, rfl⟩
    | succ k =>
      have h1 := ih k x (by simpa using h)
      rw [e]
      refine ⟨?_, ?_, ?_⟩
      · rw [List.getElem?_append_right (by simp; omega)]
        rw [← h1.1]; congr 1; simp; omega
      · rw [List.getElem?_append_right (by simp; omega)]
        rw [← h1.2.1]; congr 1; simp; omega
      · rw [List.getElem?_append_right (by simp; omega)]
        rw [← h1.2.2]; congr 1; simp; omega

theorem holdsT_of_own {w : World} {base : Nat} {e : TypeId} {v : Value} {n : Nat} {l : List Tok} (h : w.ownsRow base e 3 v n (tokCells l)) :
    ∃ A c, v = .slice A l.length c ∧ n = l.length ∧ HoldsT w A l ∧ l.length ≤ c := by
  have hn : n = l.length := by have h1 := h.1; rw [tokCells_length] at h1; omega
  subst hn
  rcases h.2 with ⟨rfl, h0⟩ | ⟨g, cap, cur, rfl, _, _, hcap, _⟩
  · have : l = [] := List.eq_nil_of_length_eq_zero h0
    subst this
    exact ⟨none, 0, rfl, rfl, HoldsT.nil _ _, Nat.le_refl _⟩
  · refine ⟨some ⟨g, 0, none⟩, cap, rfl, rfl, fun k x hx => ?_, hcap⟩
    have hc := h.cells (g := g) rfl
    obtain ⟨h1, h2, h3⟩ := tokCells_get l k x hx
    have c1 := hc _ _ h1
    have c2 := hc _ _ h2
    have c3 := hc _ _ h3
    have ea : ∀ j, (⟨g, 0, none⟩ : Addr).add j = ⟨g, 0 + j, none⟩ := fun j => by
      unfold Addr.add
      split
      · rename_i h; subst h; rfl
      · rfl
    rw [ea] at c1 c2 c3
    exact ⟨g, 0, rfl, c1, by rw [Nat.add_assoc]; exact c2, by rw [Nat.add_assoc]; exact c3⟩
theorem holdsI_of_own {w : World} {base : Nat} {e : TypeId} {v : Value} {n : Nat} {l : List Int} (h : w.ownsRow base e 1 v n (intCells l)) :
    ∃ A c, v = .slice A l.length c ∧ n = l.length ∧ HoldsI w A l ∧ l.length ≤ c := by
  have hn : n = l.length := by have h1 := h.1; rw [intCells_length] at h1; omega
  subst hn
  rcases h.2 with ⟨rfl, h0⟩ | ⟨g, cap, cur, rfl, _, _, hcap, _⟩
  · have : l = [] := List.eq_nil_of_length_eq_zero h0
    subst this
    exact ⟨none, 0, rfl, rfl, HoldsI.nil _ _, Nat.le_refl _⟩
  · refine ⟨some ⟨g, 0, none⟩, cap, rfl, rfl, fun k x hx => ?_, hcap⟩
    have hc := h.cells (g := g) rfl
    have h1 : (intCells l)[k]? = some (.int .i64 x) := by simp [intCells, hx]
    have c1 := hc _ _ h1
    have ea : ∀ j, (⟨g, 0, none⟩ : Addr).add j = ⟨g, 0 + j, none⟩ := fun j => by
      unfold Addr.add
      split
      · rename_i h; subst h; rfl
      · rfl
    rw [ea] at c1
    exact ⟨g, 0, rfl, c1⟩

/-- What 'Few' makes of tokens. -/
def cut300 (s : ByteArray) : ByteArray := s.extract 0 (min s.size 300)
def few1 (x : Tok) : Tok := ⟨x.kind, cut300 x.text, cut300 x.glyph⟩
def fewTo (l : List Tok) (k : Nat) : List Tok := (l.take k).map few1
def few (l : List Tok) : List Tok := fewTo l 60
theorem fewTo_succ (l : List Tok) (k : Nat) (h : k < l.length) : fewTo l (k + 1) = fewTo l k ++ [few1 l[k]] := by
  unfold fewTo
  rw [List.take_succ_eq_append_getElem h, List.map_append]; rfl
theorem fewTo_all (l : List Tok) (h : l.length ≤ 60) : fewTo l l.length = few l := by
  unfold few fewTo
  rw [List.take_of_length_le (Nat.le_refl _), List.take_of_length_le h]
theorem few_len (l : List Tok) : (few l).length ≤ 60 := by simp [few, fewTo]; omega

/-- Tokens whose texts are not too long, and not too many. -/
def mildT (l : List Tok) : Prop := l.length ≤ 1000 ∧ ∀ (k : Nat) (x : Tok), l[k]? = some x → x.text.size ≤ 1000000 ∧ x.glyph.size ≤ 1000000
theorem mild_few (l : List Tok) : mildT (few l) := by
  refine ⟨by have := few_len l; omega, fun k x h => ?_⟩
  simp only [few, fewTo, List.getElem?_map, Option.map_eq_some_iff] at h
  obtain ⟨y, _, rfl⟩ := h
  simp only [few1, cut300, ByteArray.size_extract]
  omega
end Go.Proofs.YtflpihedhccdfaaGreatDoor
/-
  The walks of the runes' tests, of how many bytes are so.
-/
namespace Go.Proofs.YtflpihedhccdfaaGreatDoor
open Go.RowKit Go.Shelf

def rBlank (r : Nat) : Bool := r == 32 || r == 9
def rDig (r : Nat) : Bool := decide (48 ≤ r) && decide (r ≤ 57)
def rLet (r : Nat) : Bool := (decide (97 ≤ r) && decide (r ≤ 122)) || ((decide (65 ≤ r) && decide (r ≤ 90)) || r == 95)
def rPart (r : Nat) : Bool := rLet r || rDig r

theorem isBlank_any (r : Nat) (w : World) : Calls Tryz.prog 95 #[.int .i32 r] w fun e w' => e = .returned (.bool (rBlank r)) ∧ w' = w := by
  go_enter Tryz.func95, Tryz.ntmps95
  unfold rBlank
  by_cases h1 : r = 32
  · subst h1
    go_wp2
    go_ret
    exact ⟨rfl, rfl⟩
  · by_cases h2 : r = 9
    · subst h2
      go_wp2
      go_ret
      exact ⟨rfl, rfl⟩
    · have q1 : ((r : Int) == 32) = false := by simp; omega
      have q2 : ((r : Int) == 9) = false := by simp; omega
      have q3 : (r == 32 || r == 9) = false := by simp [h1, h2]
      rw [q3]
      go_wp2
      go_ret
      exact ⟨rfl, rfl⟩
theorem isDigit_any (r : Nat) (w : World) : Calls Tryz.prog 98 #[.int .i32 r] w fun e w' => e = .returned (.bool (rDig r)) ∧ w' = w := by
  go_enter Tryz.func98, Tryz.ntmps98
  unfold rDig
  by_cases h1 : 48 ≤ r
  · by_cases h2 : r ≤ 57
    · go_wp2
      go_ret
      refine ⟨?_, rfl⟩
      simp [h1, h2]
      omega
    · go_wp2
      go_ret
      refine ⟨?_, rfl⟩
      simp [h1, h2]
      omega
  · go_wp2
    go_ret
    refine ⟨?_, rfl⟩
    simp [h1]
theorem rLet_cases (r : Nat) : (rLet r = true ∧ decide ((97 : Int) ≤ (r : Int)) = true ∧ decide ((r : Int) ≤ 122) = true) ∨
    (rLet r = false ∧ decide ((97 : Int) ≤ (r : Int)) = true ∧ decide ((r : Int) ≤ 122) = false ∧ decide ((65 : Int) ≤ (r : Int)) = true ∧ decide ((r : Int) ≤ 90) = false ∧ ((r : Int) == 95) = false) ∨
    (rLet r = true ∧ decide ((97 : Int) ≤ (r : Int)) = false ∧ decide ((65 : Int) ≤ (r : Int)) = true ∧ decide ((r : Int) ≤ 90) = true) ∨
    (rLet r = true ∧ decide ((97 : Int) ≤ (r : Int)) = false ∧ decide ((65 : Int) ≤ (r : Int)) = true ∧ decide ((r : Int) ≤ 90) = false ∧ ((r : Int) == 95) = true) ∨
    (rLet r = false ∧ decide ((97 : Int) ≤ (r : Int)) = false ∧ decide ((65 : Int) ≤ (r : Int)) = true ∧ decide ((r : Int) ≤ 90) = false ∧ ((r : Int) == 95) = false) ∨
    (rLet r = false ∧ decide ((97 : Int) ≤ (r : Int)) = false ∧ decide ((65 : Int) ≤ (r : Int)) = false ∧ ((r : Int) == 95) = false) := by
  unfold rLet
  simp only [Bool.or_eq_true, Bool.and_eq_true, decide_eq_true_eq, beq_iff_eq, Bool.or_eq_false_iff, Bool.and_eq_false_iff, decide_eq_false_iff_not, beq_eq_false_iff_ne, ne_eq]
  omega
theorem isLetter_any (r : Nat) (w : World) : Calls Tryz.prog 101 #[.int .i32 r] w fun e w' => e = .returned (.bool (rLet r)) ∧ w' = w := by
  rcases rLet_cases r with ⟨e, h⟩ | ⟨e, h⟩ | ⟨e, h⟩ | ⟨e, h⟩ | ⟨e, h⟩ | ⟨e, h⟩
  all_goals
    rw [e]
    go_enter Tryz.func101, Tryz.ntmps101
    go_wp2
    go_ret
    exact ⟨rfl, rfl⟩
theorem isPart_any (r : Nat) (w : World) : Calls Tryz.prog 100 #[.int .i32 r] w fun e w' => e = .returned (.bool (rPart r)) ∧ w' = w := by
  have HL := Lib.hid (isLetter_any r)
  have HD := Lib.hid (isDigit_any r)
  unfold rPart
  generalize rLet r = a at *
  generalize rDig r = b at *
  go_enter Tryz.func100, Tryz.ntmps100
  cases a
  · go_wp2_with fail
    refine (HL.out _).mono ?_
    rintro e w1 ⟨rfl, rfl⟩
    go_wp2_with fail
    refine (HD.out _).mono ?_
    rintro e w1 ⟨rfl, rfl⟩
    go_wp2_with fail
    go_ret
    exact ⟨rfl, rfl⟩
  · go_wp2_with fail
    refine (HL.out _).mono ?_
    rintro e w1 ⟨rfl, rfl⟩
    go_wp2_with fail
    go_ret
    exact ⟨rfl, rfl⟩

/-- How many bytes are so, told by runes. -/
theorem many_at {p : UInt8 → Bool} : ∀ {l : List UInt8} {pos : Nat} {c : UInt8}, pos ≤ many p l → l[pos]? = some c → (p c = true → pos + 1 ≤ many p l) ∧ (p c = false → many p l = pos)
  | [], pos, c, _, h => by simp at h
  | d :: l, 0, c, _, h => by
    simp at h
    subst h
    unfold many
    rw [List.takeWhile_cons]
    cases hd : p d with
    | true => simp
    | false => simp
  | d :: l, pos + 1, c, hp, h => by
    have hd : p d = true := by
      cases hd : p d with
      | true => rfl
      | false =>
        unfold many at hp
        rw [List.takeWhile_cons, hd] at hp
        simp at hp
    have e : many p (d :: l) = many p l + 1 := by unfold many; rw [List.takeWhile_cons, hd]; simp
    rw [e] at hp ⊢
    have := many_at (p := p) (l := l) (pos := pos) (c := c) (by omega) (by simpa using h)
    exact ⟨fun h => by have := this.1 h; omega, fun h => by rw [this.2 h]⟩
theorem many_all {p : UInt8 → Bool} {l : List UInt8} (h : l.length ≤ many p l) : many p l = l.length := by
  have := many_le p l
  omega
theorem below_iter (w : World) (s : ByteArray) (p : Nat) : Below w.heap.size w (w.iter s p) := (Below.refl _ w).alloc (Nat.le_refl _) _

set_option maxRecDepth 100000 in
set_option maxHeartbeats 4000000 in
theorem while_any (f : FuncId) (r : Nat → Bool) (p : UInt8 → Bool) (hfe : ∀ args w, (callFunc f args).run Tryz.prog w = .ok (.enter f args) w) (hf : ∀ (n : Nat) (w : World), Calls Tryz.prog f #[.int .i32 n] w fun e w' => e = .returned (.bool (r n)) ∧ w' = w) (hp : ∀ c : UInt8, c.toNat < 128 → p c = r c.toNat) (hp2 : ∀ c : UInt8, 128 ≤ c.toNat → p c = false) (hr : ∀ n, 128 ≤ n → r n = false)
    (s : ByteArray) (b off : Nat) (w : World) (hs : s.size ≤ 1000000) (h0 : w.cell? ⟨b, off, none⟩ = some (.string s)) :
    Calls Tryz.prog 94 #[.pointer (some ⟨b, off, none⟩), .func (.func f) #[] #[]] w fun e w' => e = .returned (.int .i64 (many p s.data.toList)) ∧ Below w.heap.size w w' := by
  have HF := Lib.hid hf
  clear hf
  have hb : b < w.heap.size := cell_lt h0
  generalize hm : many p s.data.toList = m at *
  go_enter Tryz.func94, Tryz.ntmps94
  go_wp2_with fail
  have hml : m ≤ s.size := by rw [← hm, ← bytes_len]; exact many_le _ _
  have HM := Lib.hid hm
  clear hm
  go_loopw [] (fun wr => ∃ (pos : Nat), wr = w.iter s pos ∧ pos ≤ m) (fun wr => s.size - wr.iterPos w.heap.size)
  case atStart => exact ⟨0, rfl, Nat.zero_le _⟩
  case round =>
    obtain ⟨pos, rfl, hpm⟩ := hrel
    have f0 : (w.iter s pos).cell? ⟨b, off, none⟩ = some (.string s) := (World.cell?_alloc_lt _ _ _ hb).trans h0
    have HB := Lib.hid (below_iter w s pos)
    by_cases hlt : pos < s.size
    · have g : s.data.toList[pos]? = some (s[pos]'hlt) := by
        rw [List.getElem?_eq_getElem (by rw [bytes_len]; exact hlt)]
        rfl
      obtain ⟨hat1, hat2⟩ := many_at (p := p) (by rw [HM.out]; exact hpm) g
      rw [HM.out] at hat1 hat2
      by_cases ha : (s[pos]'hlt).toNat < 128
      · have HN := run_next_ascii (P := Tryz.prog) w s pos
        have hc := hp _ ha
        have HFc := Lib.hid (HF.out (s[pos]'hlt).toNat (w.iter s (pos + 1)))
        rw [← hc] at HFc
        cases hpc : p (s[pos]'hlt) with
        | true =>
          rw [hpc] at HFc
          have := hat1 hpc
          clear hpc hc hat1 hat2 g
          go_wp2_with fail
          refine HFc.out.mono ?_
          rintro e w1 ⟨rfl, rfl⟩
          go_wp2_with fail
          go_roundw
          case rel => exact ⟨pos + 1, rfl, by omega⟩
          case measure => simp; omega
        | false =>
          rw [hpc] at HFc
          obtain rfl := hat2 hpc
          clear hpc hc hat1 hat2 g
          go_wp2_with fail
          refine HFc.out.mono ?_
          rintro e w1 ⟨rfl, rfl⟩
          go_wp2_with fail
          go_ret
          exact ⟨rfl, below_iter _ _ _⟩
      · have HN := run_next_any (P := Tryz.prog) w s pos
        obtain ⟨hh1, hh2⟩ := decode_high s pos hlt (by omega)
        have hc := hp2 _ (show 128 ≤ (s[pos]'hlt).toNat by omega)
        have HFc := Lib.hid (HF.out (Utf8.decode s pos).1 (w.iter s (pos + (Utf8.decode s pos).2)))
        rw [hr _ hh1] at HFc
        obtain rfl := hat2 hc
        clear hc hat1 hat2 g
        go_wp2_with fail
        refine HFc.out.mono ?_
        rintro e w1 ⟨rfl, rfl⟩
        go_wp2_with fail
        go_ret
        exact ⟨rfl, below_iter _ _ _⟩
    · have HN := fun ty => run_next_end (P := Tryz.prog) w s s.size ty (Nat.lt_irrefl _)
      have hml2 := Lib.hid (show m = s.size by omega)
      obtain rfl : pos = s.size := by omega
      go_wp2_with fail
      go_ret
      exact ⟨by rw [hml2.out]; rfl, below_iter _ _ _⟩
theorem fe (f : FuncId) (h : f = 95 ∨ f = 98 ∨ f = 100) : ∀ args w, (callFunc f args).run Tryz.prog w = .ok (.enter f args) w := by
  rcases h with rfl | rfl | rfl
  · exact enters_of Tryz.func95 (by kernel_rfl) rfl
  · exact enters_of Tryz.func98 (by kernel_rfl) rfl
  · exact enters_of Tryz.func100 (by kernel_rfl) rfl
/-- How many blanks, digits, bytes of a name. -/
theorem whileBlank_any (s : ByteArray) (b off : Nat) (w : World) (hs : s.size ≤ 1000000) (h0 : w.cell? ⟨b, off, none⟩ = some (.string s)) :
    Calls Tryz.prog 94 #[.pointer (some ⟨b, off, none⟩), .func (.func 95) #[] #[]] w fun e w' => e = .returned (.int .i64 (dBlanks s)) ∧ Below w.heap.size w w' :=
  while_any _ rBlank isBlank (fe _ (.inl rfl)) isBlank_any (fun c hc => by
      unfold isBlank rBlank
      have h1 : (c == 32) = (c.toNat == 32) := by rw [Bool.eq_iff_iff]; simp [← UInt8.toNat_inj]
      have h2 : (c == 9) = (c.toNat == 9) := by rw [Bool.eq_iff_iff]; simp [← UInt8.toNat_inj]
      rw [h1, h2]) (fun c hc => by
      unfold isBlank
      have h1 : c ≠ 32 := fun e => by rw [e] at hc; exact absurd hc (by decide)
      have h2 : c ≠ 9 := fun e => by rw [e] at hc; exact absurd hc (by decide)
      simp [h1, h2]) (fun n hn => by unfold rBlank; simp; omega) s b off w hs h0
theorem whileDigit_any (s : ByteArray) (b off : Nat) (w : World) (hs : s.size ≤ 1000000) (h0 : w.cell? ⟨b, off, none⟩ = some (.string s)) :
    Calls Tryz.prog 94 #[.pointer (some ⟨b, off, none⟩), .func (.func 98) #[] #[]] w fun e w' => e = .returned (.int .i64 (dDigits s)) ∧ Below w.heap.size w w' :=
  while_any _ rDig isDig (fe _ (.inr (.inl rfl))) isDigit_any (fun c hc => rfl) (fun c hc => by unfold isDig; simp; omega) (fun n hn => by unfold rDig; simp; omega) s b off w hs h0
def isPartB (c : UInt8) : Bool := isLet c || isDig c
theorem let_r (c : UInt8) : isLet c = rLet c.toNat := by
  unfold isLet rLet
  have h1 : (c == 95) = (c.toNat == 95) := by rw [Bool.eq_iff_iff]; simp [← UInt8.toNat_inj]
  rw [h1]
theorem whilePart_any (s : ByteArray) (b off : Nat) (w : World) (hs : s.size ≤ 1000000) (h0 : w.cell? ⟨b, off, none⟩ = some (.string s)) :
    Calls Tryz.prog 94 #[.pointer (some ⟨b, off, none⟩), .func (.func 100) #[] #[]] w fun e w' => e = .returned (.int .i64 (many isPartB s.data.toList)) ∧ Below w.heap.size w w' :=
  while_any _ rPart isPartB (fe _ (.inr (.inr rfl))) isPart_any (fun c hc => by unfold isPartB rPart; rw [let_r]; rfl) (fun c hc => by
    unfold isPartB
    rw [let_r]
    unfold rLet isDig
    simp
    omega) (fun n hn => by unfold rPart rLet rDig; simp; omega) s b off w hs h0
theorem word_many {s : ByteArray} (h : 0 < dWord s) : many isPartB s.data.toList = dWord s := by
  unfold dWord wordL at *
  cases hl : s.data.toList with
  | nil => rw [hl] at h; simp at h
  | cons c l =>
    rw [hl] at h
    simp only at h ⊢
    split at h
    · rename_i hc
      rw [if_pos hc]
      unfold many
      rw [List.takeWhile_cons, if_pos (by unfold isPartB; rw [hc]; rfl)]
      rfl
    · omega
end Go.Proofs.YtflpihedhccdfaaGreatDoor
