/-
  The calls of the laws, opened: a slice, what it holds, a number.
-/
import Derived.Test.YtbcgdkhkljeomaaDoorProg
import Derived.Test.YtbcgdkhkljeomaaDoorReg
import Derived.WalkKit
import Derived.WalkSpells
import Derived.WalkLawsBesides
import Derived.Lib.Hide
import Derived.Lib.MinMax
import Derived.Deep.QuietTactic
import Derived.BigQuiet
import Derived.OwnWalk
import Derived.Deep.AppendLies
import Derived.KernelRfl
import Derived.Test.YtbcgdkhkljeomaaDoorNdPl
import Derived.Test.YtbcgdkhkljeomaaDoorNdSh
import Derived.Test.YtbcgdkhkljeomaaDoorNdRk
import Derived.Test.YtbcgdkhkljeomaaDoorNdArg
set_option linter.unusedSimpArgs false
set_option linter.unusedVariables false
namespace Go.Proofs.YtbcgdkhkljeomaaDoor
open Go.RowKit

def outOf (o : Option (List Nd)) : List Nd := o.getD []
def codeO (o : Option (List Nd)) : Int := if o.isSome then 0 else 70
/-- A slice of nodes and a number. -/
def Gives (o : Option (List Nd)) (e : Ending) (w w' : World) : Prop := ∃ A c, e = .returned (.tuple #[.slice A (outOf o).length c, .int .i64 (codeO o)]) ∧ HoldsN w' A (outOf o) ∧ (outOf o).length ≤ c ∧ Below w.heap.size w w'
theorem JoinDone.gives {kind : Int} {text : ByteArray} {l : List (List Nd)} {e : Ending} {w w' : World} (h : JoinDone kind text l e w w') : Gives (joinN kind text l) e w w' := by
  obtain ⟨h1, hb⟩ := h
  unfold Gives
  cases hj : joinN kind text l with
  | none =>
    rw [hj] at h1
    exact ⟨none, 0, h1, HoldsN.nil _ _, Nat.le_refl _, hb⟩
  | some out =>
    rw [hj] at h1
    obtain ⟨v, L, rfl, hN, hM⟩ := h1
    obtain ⟨A, c, rfl, h2, h3⟩ := hN.opened hM rfl
    exact ⟨A, c, rfl, h2, h3, hb⟩
theorem KidGot.gives {t : List Nd} {n : Int} {e : Ending} {w w' : World} (h : KidGot t n e w w') : Gives (kidN t n) e w w' := by
  obtain ⟨h1, hb⟩ := h
  unfold Gives
  cases hj : kidN t n with
  | none =>
    rw [hj] at h1
    exact ⟨none, 0, h1, HoldsN.nil _ _, Nat.le_refl _, hb⟩
  | some out =>
    rw [hj] at h1
    obtain ⟨v, L, rfl, hN, hM⟩ := h1
    obtain ⟨A, c, rfl, h2, h3⟩ := hN.opened hM rfl
    exact ⟨A, c, rfl, h2, h3, hb⟩
theorem out_int {o : Option (List Nd)} (h : ∀ x, o = some x → IntN x) : IntN (outOf o) := by
  cases o with
  | none => exact fun x hx => by simp [outOf] at hx
  | some x => exact h x rfl
theorem right_len {t : List Nd} (h : rightN t = true) : t.length ≤ 400 := (rightN_parts h).2.1
theorem out_len {o : Option (List Nd)} (h : ∀ x, o = some x → rightN x = true) : (outOf o).length ≤ 400 := by
  cases o with
  | none => simp [outOf]
  | some x => exact right_len (h x rfl)
theorem cut_size (s : ByteArray) : (cut50 s).size ≤ 50 := by simp [cut50, ByteArray.size_extract]; omega
theorem err_below {a : Addr} {w w' : World} (h : errNodeAt a w) (hb : Below w.heap.size w w') : errNodeAt a w' := (hb.cell (p := ⟨0, 0, none⟩) (cell_lt h)).trans h
theorem few_len (t : List Nd) : (fewN t).length ≤ 60 := by simp [fewN]; omega
theorem few_int {t : List Nd} (h : ∀ x ∈ t, MayNd x) : IntN (fewN t) := fewN_small t (fun x hx => ⟨(h x hx).1, (h x hx).2.2.2⟩)
/-- 'Few', opened. -/
theorem fewC (t : List Nd) (A : Option Addr) (c : Nat) (w : World) (hh : HoldsN w A t) (hl : t.length ≤ maxLen) (hm : ∀ x ∈ t, MayNd x) :
    Calls Tryd.prog 11 #[.slice A t.length c] w fun e w' => ∃ B d, e = .returned (.slice B (fewN t).length d) ∧ HoldsN w' B (fewN t) ∧ (fewN t).length ≤ d ∧ Below w.heap.size w w' := by
  refine (few_any t A c w hh hl (fun x hx => (hm x hx).2.1) (fun x hx => (hm x hx).2.2.1)).mono ?_
  rintro e w' ⟨v, L, rfl, hL, hN, hb⟩
  obtain ⟨B, d, rfl, h1, h2⟩ := hN.opened hL rfl
  exact ⟨B, d, rfl, h1, h2, hb⟩
/-- Trees that are small. -/
def SmallTs (l : List (List Nd)) : Prop := l.length ≤ 4 ∧ ∀ t ∈ l, t.length ≤ 60 ∧ IntN t
theorem some_small {l : List (List Nd)} (h : ∀ t ∈ l, t.length ≤ maxLen ∧ ∀ k ∈ t, MayNd k) : SmallTs (someN l) := by
  refine ⟨by simp [someN]; omega, fun t ht => ?_⟩
  unfold someN at ht
  obtain ⟨u, hu, rfl⟩ := List.mem_map.1 ht
  exact ⟨few_len u, few_int (h u (List.mem_of_mem_take hu)).2⟩
/-- 'some', opened. -/
theorem someC (l : List (List Nd)) (A : Option Addr) (c : Nat) (w : World) (hl : l.length ≤ maxLen) (hs : ∀ t ∈ l, t.length ≤ maxLen ∧ ∀ k ∈ t, MayNd k) (hh : HoldsTs w A l) :
    Calls Tryd.prog 10 #[.slice A l.length c] w fun e w' => ∃ B d, e = .returned (.slice B (someN l).length d) ∧ HoldsTs w' B (someN l) ∧ (someN l).length ≤ d ∧ Below w.heap.size w w' := by
  refine (some_any l A c w hh hl (fun t ht => ⟨(hs t ht).1, fun x hx => ⟨((hs t ht).2 x hx).2.1, ((hs t ht).2 x hx).2.2.1⟩⟩)).mono ?_
  rintro e w' ⟨v, M, rfl, hM, hT, hb⟩
  obtain ⟨B, d, rfl, h1, h2⟩ := hT.holds
  have e : M.length = (someN l).length := by rw [← hM]; unfold treesOf; rw [List.length_map]
  rw [hM] at h1
  exact ⟨B, d, by rw [e], h1, by omega, hb⟩
theorem leafC (kind : Int) (text : ByteArray) (a : Addr) (w : World) (hk : (Lit.int .i64 kind).wf = true) (hx : text.size ≤ 50) (he : errNodeAt a w) :
    Calls Tryd.prog 12 #[.int .i64 kind, .string text] w fun e w' => Gives (joinN kind text []) e w w' :=
  (leaf_any kind text a w hk (by omega) he).mono fun _ _ h => h.gives
theorem refLeafC (kind : Int) (text : ByteArray) (w : World) (hk : (Lit.int .i64 kind).wf = true) (hx : text.size ≤ 50) :
    Calls Tryd.prog 14 #[.int .i64 kind, .string text] w fun e w' => Gives (joinN kind text []) e w w' :=
  (refLeaf_any kind text w hk (by omega)).mono fun _ _ h => h.gives
theorem joinC (kind : Int) (text : ByteArray) (l : List (List Nd)) (A : Option Addr) (c : Nat) (a : Addr) (w : World) (hk : (Lit.int .i64 kind).wf = true) (hx : text.size ≤ 50) (hs : SmallTs l) (hh : HoldsTs w A l) (he : errNodeAt a w) :
    Calls Tryd.prog 15 #[.int .i64 kind, .string text, .slice A l.length c] w fun e w' => Gives (joinN kind text l) e w w' :=
  (join_any kind text l A c a w hk (by omega) (by have := hs.1; omega) hh (fun t ht => ⟨by have := (hs.2 t ht).1; omega, (hs.2 t ht).2⟩) he).mono fun _ _ h => h.gives
theorem refJoinC (kind : Int) (text : ByteArray) (l : List (List Nd)) (A : Option Addr) (c : Nat) (w : World) (hk : (Lit.int .i64 kind).wf = true) (hx : text.size ≤ 50) (hs : SmallTs l) (hh : HoldsTs w A l) :
    Calls Tryd.prog 16 #[.int .i64 kind, .string text, .slice A l.length c] w fun e w' => Gives (joinN kind text l) e w w' :=
  (refJoin_any kind text l A c w hk (by omega) (by have := hs.1; omega) hh (fun t ht => ⟨by have := (hs.2 t ht).1; omega, (hs.2 t ht).2⟩)).mono fun _ _ h => h.gives
theorem kidC (t : List Nd) (n : Int) (A : Option Addr) (c : Nat) (a : Addr) (w : World) (hh : HoldsN w A t) (hi : IntN t) (hc : t.length ≤ c) (hl : t.length ≤ 1000) (he : errNodeAt a w) :
    Calls Tryd.prog 17 #[.slice A t.length c, .int .i64 n] w fun e w' => Gives (kidN t n) e w w' :=
  (kidOf_any t n A c a w hh hi hc (by omega) he).mono fun _ _ h => h.gives
theorem refKidC (t : List Nd) (n : Int) (A : Option Addr) (c : Nat) (w : World) (hh : HoldsN w A t) (hi : IntN t) (hc : t.length ≤ c) (hl : t.length ≤ 1000) :
    Calls Tryd.prog 18 #[.slice A t.length c, .int .i64 n] w fun e w' => Gives (kidN t n) e w w' :=
  (refKid_any t n A c w hh hi hc hl).mono fun _ _ h => h.gives
theorem refSameC (t : List Nd) (A C : Option Addr) (c d : Nat) (w : World) (hl : t.length ≤ 1000) (hA : HoldsN w A t) (hC : HoldsN w C t) (it : IntN t) :
    Calls Tryd.prog 19 #[.slice A t.length c, .slice C t.length d] w fun r w' => r = .returned (.bool true) ∧ Below w.heap.size w w' := by
  have := refSame_any t t A C c d w hl hl hA hC it it
  simpa using this
end Go.Proofs.YtbcgdkhkljeomaaDoor
