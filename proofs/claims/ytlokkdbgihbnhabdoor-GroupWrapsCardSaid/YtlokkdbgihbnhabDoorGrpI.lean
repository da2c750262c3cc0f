/-
  Parts and insides, plainly, round by round; slices of slices of tokens in memory. No program here.
-/
import Derived.Test.YtlokkdbgihbnhabDoorGrpS
import Derived.Test.YtlokkdbgihbnhabDoorGrpT
import Derived.Test.YtlokkdbgihbnhabDoorGrpH
set_option linter.unusedSimpArgs false
set_option linter.unusedVariables false
namespace Go.Proofs.YtlokkdbgihbnhabDoor
open Go.RowKit

/-- What lies from one place to another. -/
def seg (l : List Tok) (a b : Nat) : List Tok := (l.drop a).take (b - a)
theorem seg_len {l : List Tok} {a b : Nat} (h : b ≤ l.length) : (seg l a b).length = b - a := by
  unfold seg
  rw [List.length_take, List.length_drop]
  omega
theorem seg_get {l : List Tok} {a b k : Nat} {x : Tok} (h : (seg l a b)[k]? = some x) : l[a + k]? = some x ∧ a + k < b := by
  unfold seg at h
  rw [List.getElem?_take] at h
  split at h
  · rw [List.getElem?_drop] at h
    exact ⟨h, by omega⟩
  · cases h
theorem seg_all (l : List Tok) : seg l 0 l.length = l := by
  unfold seg
  simp
theorem seg_end (l : List Tok) (a : Nat) : seg l a l.length = l.drop a := by
  unfold seg
  rw [List.take_of_length_le (by simp)]
theorem seg_more {l : List Tok} {a i : Nat} {x : Tok} (hx : l[i]? = some x) (h : a ≤ i) : seg l a (i + 1) = seg l a i ++ [x] := by
  obtain ⟨hi, rfl⟩ := List.getElem?_eq_some_iff.1 hx
  unfold seg
  have e : i + 1 - a = (i - a) + 1 := by omega
  rw [e, List.take_succ_eq_append_getElem (by rw [List.length_drop]; omega)]
  congr 1
  simp only [List.getElem_drop]
  congr 2
  omega
theorem seg_between (l : List Tok) (a b : Nat) : between2 l a b = seg l (a + 1) b := rfl

theorem split_yes {g : ByteArray} {l : List Tok} {D : List Nat} {i a : Nat} {x : Tok} {done T : List (List Tok)} (hx : l[i]? = some x) (hd : D[i]? = some 0) (hs : x.isSign g = true) (hb : x.br = none)
    (h : done ++ splitGo g (l.drop i) (D.drop i) (seg l a i) = T) : (done ++ [seg l a i]) ++ splitGo g (l.drop (i + 1)) (D.drop (i + 1)) (seg l (i + 1) (i + 1)) = T := by
  obtain ⟨h1, rfl⟩ := List.getElem?_eq_some_iff.1 hx
  obtain ⟨h2, h3⟩ := List.getElem?_eq_some_iff.1 hd
  rw [← h, List.drop_eq_getElem_cons h1, List.drop_eq_getElem_cons h2, h3]
  have e : seg l (i + 1) (i + 1) = [] := by unfold seg; simp
  rw [e]
  conv => rhs; rw [splitGo, if_pos ⟨rfl, hs, hb⟩]
  simp
theorem split_no {g : ByteArray} {l : List Tok} {D : List Nat} {i a d : Nat} {x : Tok} {done T : List (List Tok)} (hx : l[i]? = some x) (hd : D[i]? = some d) (ha : a ≤ i) (hn : ¬ (d = 0 ∧ x.isSign g = true ∧ x.br = none))
    (h : done ++ splitGo g (l.drop i) (D.drop i) (seg l a i) = T) : done ++ splitGo g (l.drop (i + 1)) (D.drop (i + 1)) (seg l a (i + 1)) = T := by
  rw [seg_more hx ha]
  obtain ⟨h1, rfl⟩ := List.getElem?_eq_some_iff.1 hx
  obtain ⟨h2, h3⟩ := List.getElem?_eq_some_iff.1 hd
  rw [← h, List.drop_eq_getElem_cons h1, List.drop_eq_getElem_cons h2, h3]
  conv => rhs; rw [splitGo, if_neg hn]
theorem split_end {g : ByteArray} {l : List Tok} {D : List Nat} {a : Nat} {done T : List (List Tok)} (h : done ++ splitGo g (l.drop l.length) (D.drop l.length) (seg l a l.length) = T) : done ++ [seg l a l.length] = T := by
  rw [← h]
  congr 1
  rw [List.drop_of_length_le (Nat.le_refl _)]
  simp [splitGo]

/-- The parts, and what is told with them. -/
def splitRes (l : List Tok) (g : ByteArray) : List (List Tok) × Int := if codeOf l = 0 then (splitOf l g, 0) else ([], codeOf l)
def insideRes (l : List Tok) (a : Int) : List Tok × Int :=
  if codeOf l = 0 then (if 0 ≤ a ∧ a < l.length ∧ a ≤ (brsOf l).pr a.toNat then (seg l (a.toNat + 1) ((brsOf l).pr a.toNat).toNat, 0) else ([], 60)) else ([], codeOf l)

/-- A slice of slices of tokens. -/
def HoldsTT (w : World) (A : Option Addr) (ps : List (List Tok)) : Prop :=
  ∀ (k : Nat) (p : List Tok), ps[k]? = some p → ∃ b off B c, A = some ⟨b, off, none⟩ ∧ w.cell? ⟨b, off + k, none⟩ = some (.slice B p.length c) ∧ p.length ≤ c ∧ HoldsT w B p
theorem HoldsTT.below {w w' : World} {A : Option Addr} {ps : List (List Tok)} (h : HoldsTT w A ps) (hb : Below w.heap.size w w') : HoldsTT w' A ps := fun k p hp => by
  obtain ⟨b, off, B, c, e, h1, h2, h3⟩ := h k p hp
  exact ⟨b, off, B, c, e, (hb.cell (p := ⟨b, _, none⟩) (cell_lt h1)).trans h1, h2, h3.below hb⟩
theorem HoldsTT.nil (w : World) (A : Option Addr) : HoldsTT w A [] := fun k p h => by simp at h
theorem HoldsTT.drewN {w : World} {A : Option Addr} {ps : List (List Tok)} (h : HoldsTT w A ps) (n : Nat) : HoldsTT (w.drewN n) A ps := h

/-- The slice's own cells xs hold, one by one, slices of the tokens ps. -/
def RowsT (w : World) (xs : List Value) (ps : List (List Tok)) : Prop := xs.length = ps.length ∧ ∀ (k : Nat) (p : List Tok), ps[k]? = some p → ∃ B c, xs[k]? = some (.slice B p.length c) ∧ p.length ≤ c ∧ HoldsT w B p
theorem RowsT.nil (w : World) : RowsT w [] [] := ⟨rfl, fun k p h => by simp at h⟩
theorem RowsT.below {w w' : World} {xs : List Value} {ps : List (List Tok)} (h : RowsT w xs ps) (hb : Below w.heap.size w w') : RowsT w' xs ps :=
  ⟨h.1, fun k p hp => by obtain ⟨B, c, h1, h2, h3⟩ := h.2 k p hp; exact ⟨B, c, h1, h2, h3.below hb⟩⟩
theorem RowsT.snoc {w : World} {xs : List Value} {ps : List (List Tok)} {p : List Tok} {B : Option Addr} {c : Nat} (h : RowsT w xs ps) (hc : p.length ≤ c) (hp : HoldsT w B p) : RowsT w (xs ++ [.slice B p.length c]) (ps ++ [p]) := by
  refine ⟨by simp [h.1], fun k q hq => ?_⟩
  by_cases hk : k < ps.length
  · rw [List.getElem?_append_left hk] at hq
    obtain ⟨B', c', h1, h2, h3⟩ := h.2 k q hq
    exact ⟨B', c', by rw [List.getElem?_append_left (by rw [h.1]; exact hk)]; exact h1, h2, h3⟩
  · rw [List.getElem?_append_right (by omega)] at hq
    obtain ⟨h1, rfl⟩ : k - ps.length = 0 ∧ p = q := by
      cases e : k - ps.length with
      | zero => rw [e] at hq; simp at hq; exact ⟨rfl, hq⟩
      | succ j => rw [e] at hq; simp at hq
    have : k = ps.length := by omega
    subst this
    exact ⟨B, c, by rw [← h.1]; simp, hc, hp⟩
theorem holdsTT_of_own {w : World} {base : Nat} {e : TypeId} {v : Value} {n : Nat} {xs : List Value} {ps : List (List Tok)} (h : w.ownsRow base e 1 v n xs) (hr : RowsT w xs ps) :
    ∃ A c, v = .slice A ps.length c ∧ n = ps.length ∧ HoldsTT w A ps ∧ ps.length ≤ c := by
  have hn : n = ps.length := by have h1 := h.1; rw [hr.1] at h1; omega
  subst hn
  rcases h.2 with ⟨rfl, h0⟩ | ⟨g, cap, cur, rfl, _, _, hcap, _⟩
  · have : ps = [] := List.eq_nil_of_length_eq_zero h0
    subst this
    exact ⟨none, 0, rfl, rfl, HoldsTT.nil _ _, Nat.le_refl _⟩
  · refine ⟨some ⟨g, 0, none⟩, cap, rfl, rfl, fun k p hp => ?_, hcap⟩
    have hc := h.cells (g := g) rfl
    obtain ⟨B, c, h1, h2, h3⟩ := hr.2 k p hp
    have c1 := hc k _ h1
    have ea : ∀ j, (⟨g, 0, none⟩ : Addr).add j = ⟨g, 0 + j, none⟩ := fun j => by
      unfold Addr.add
      split
      · rename_i h; subst h; rfl
      · rfl
    rw [ea] at c1
    exact ⟨g, 0, B, c, rfl, c1, h2, h3⟩

/-- Part of a slice of tokens. -/
theorem HoldsT.seg {w : World} {b off : Nat} {l : List Tok} (h : HoldsT w (some ⟨b, off, none⟩) l) (a c : Nat) : HoldsT w (some ⟨b, off + a * 3, none⟩) (seg l a c) := fun k x hx => by
  obtain ⟨b', off', e, h1, h2, h3⟩ := h (a + k) x (seg_get hx).1
  cases e
  have e1 : ∀ j, off + a * 3 + k * 3 + j = off + (a + k) * 3 + j := fun j => by omega
  refine ⟨b, off + a * 3, rfl, ?_, ?_, ?_⟩
  · rw [← h1]; congr 2; omega
  · rw [← h2]; congr 2; omega
  · rw [← h3]; congr 2; omega
theorem HoldsT.nil_any {w : World} {A B : Option Addr} {l : List Tok} (h : HoldsT w A l) (hl : l = []) : HoldsT w B l := by subst hl; exact HoldsT.nil _ _

theorem grown_of_below {w w' : World} (h : Below w.heap.size w w') : w.grownBy w' none := ⟨h.os, h.tape, h.output, h.size, fun k hk _ => h.block k hk⟩
theorem own_below {w w' : World} {base : Nat} {e : TypeId} {size : Nat} {v : Value} {n : Nat} {xs : List Value} (h : w.ownsRow base e size v n xs) (hb : Below w.heap.size w w') : w'.ownsRow base e size v n xs :=
  h.kept (grown_of_below hb) (by cases hv : v.ownBlock <;> simp)

/-- What a call tells: numbers, tokens, parts; a number of an error. -/
def TellsI (w : World) (out : List Int) (code : Int) (r : Ending) (w' : World) : Prop := ∃ B d, r = .returned (.tuple #[.slice B out.length d, .int .i64 code]) ∧ HoldsI w' B out ∧ Below w.heap.size w w'
def TellsT (w : World) (out : List Tok) (code : Int) (r : Ending) (w' : World) : Prop := ∃ B d, r = .returned (.tuple #[.slice B out.length d, .int .i64 code]) ∧ HoldsT w' B out ∧ Below w.heap.size w w'
def TellsTT (w : World) (out : List (List Tok)) (code : Int) (r : Ending) (w' : World) : Prop := ∃ B d, r = .returned (.tuple #[.slice B out.length d, .int .i64 code]) ∧ HoldsTT w' B out ∧ Below w.heap.size w w'
theorem TellsI.mk {w w' : World} {out : List Int} {code : Int} (B : Option Addr) (d n : Nat) (hn : n = out.length) {c : Int} (hc : c = code) (h : HoldsI w' B out) (hb : Below w.heap.size w w') : TellsI w out code (.returned (.tuple #[.slice B n d, .int .i64 c])) w' := by
  subst hn hc
  exact ⟨B, d, rfl, h, hb⟩
theorem TellsT.mk {w w' : World} {out : List Tok} {code : Int} (B : Option Addr) (d n : Nat) (hn : n = out.length) {c : Int} (hc : c = code) (h : HoldsT w' B out) (hb : Below w.heap.size w w') : TellsT w out code (.returned (.tuple #[.slice B n d, .int .i64 c])) w' := by
  subst hn hc
  exact ⟨B, d, rfl, h, hb⟩
theorem TellsTT.mk {w w' : World} {out : List (List Tok)} {code : Int} (B : Option Addr) (d n : Nat) (hn : n = out.length) {c : Int} (hc : c = code) (h : HoldsTT w' B out) (hb : Below w.heap.size w w') : TellsTT w out code (.returned (.tuple #[.slice B n d, .int .i64 c])) w' := by
  subst hn hc
  exact ⟨B, d, rfl, h, hb⟩
end Go.Proofs.YtlokkdbgihbnhabDoor
