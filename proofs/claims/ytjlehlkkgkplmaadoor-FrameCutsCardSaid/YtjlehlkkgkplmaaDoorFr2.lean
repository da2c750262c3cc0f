/-
  What is left behind feeds, plainly; rows that a feed keeps.
-/
import Derived.Test.YtjlehlkkgkplmaaDoorProg
import Derived.Test.YtjlehlkkgkplmaaDoorReg
import Derived.WalkKit
import Derived.WalkSpells
import Derived.WalkLawsBesides
import Derived.Lib.Hide
import Derived.Lib.MinMax
import Derived.Deep.QuietTactic
import Derived.BigQuiet
import Derived.OwnWalk
import Derived.Deep.AppendLies
import Derived.KernelRfl
import Derived.Test.YtjlehlkkgkplmaaDoorFrSh
set_option linter.unusedSimpArgs false
set_option linter.unusedVariables false
namespace Go.Proofs.YtjlehlkkgkplmaaDoor
open Go Go.RowKit

theorem splitB_rest (s : ByteArray) : ((splitB s).2.2 = true → (splitB s).2.1 = ⟨#[]⟩) ∧ ((splitB s).2.2 = false → frOf (splitB s).2.1.data.toList = .more) ∧ (splitB s).2.1.size ≤ 9100 := by
  have h1 := splitS_bad (s.data.toList.length + 1) s.data.toList (Nat.lt_succ_self _)
  have h2 := splitS_left (s.data.toList.length + 1) s.data.toList (Nat.lt_succ_self _)
  unfold splitB
  simp only
  refine ⟨fun h => by rw [h1 h], fun h => h2 h, ?_⟩
  show (splitS s.data.toList).2.1.length ≤ 9100
  cases hb : (splitS s.data.toList).2.2 with
  | true => rw [h1 hb]; simp
  | false =>
    have := left_short (h2 hb)
    omega
theorem splitB_of {s : ByteArray} {l : List (List UInt8)} {r : List UInt8} {b : Bool} (h : splitS s.data.toList = (l, r, b)) : splitB s = (l.map (fun x => ⟨x.toArray⟩), ⟨r.toArray⟩, b) := by
  unfold splitB
  rw [h]
/-- What comes behind goes behind what is left. -/
theorem splitB_app (s x : ByteArray) : splitB (s ++ x) = if (splitB s).2.2 = true then splitB s else ((splitB s).1 ++ (splitB ((splitB s).2.1 ++ x)).1, (splitB ((splitB s).2.1 ++ x)).2) := by
  have h := splitS_app x.data.toList (s.data.toList.length + 1) s.data.toList (Nat.lt_succ_self _)
  have e : (s ++ x).data.toList = s.data.toList ++ x.data.toList := by rw [ByteArray.data_append, Array.toList_append]
  unfold splitB
  simp only
  have e2 : ((⟨(splitS s.data.toList).2.1.toArray⟩ : ByteArray) ++ x).data.toList = (splitS s.data.toList).2.1 ++ x.data.toList := by rw [ByteArray.data_append, Array.toList_append]
  rw [e, e2, h]
  split <;> simp
theorem splitB_more {s : ByteArray} (h : frOf s.data.toList = .more) : splitB s = ([], s, false) := by
  rw [splitB_of (splitS_more h)]
  rfl
theorem own_far {w w' : World} {base : Nat} {e : TypeId} {size : Nat} {v : Value} {n : Nat} {xs : List Value} {X : Nat} (h : w.ownsRow base e size v n xs) (hg : w.grownBy w' (some X)) (hX : X < base) : w'.ownsRow base e size v n xs :=
  h.kept hg (Or.inr (fun e => by have := ownBlock_ge h X e; omega))
theorem rd_far {w w' : World} {X Y : Nat} {a : Addr} {s : ByteArray} {bad : Bool} (h : IsRd w X a s bad) (hg : w.grownBy w' (some Y)) (hne : X ≠ Y) : IsRd w' X a s bad :=
  (hg.block X (Array.getElem?_eq_some_iff.1 h).1 (fun e => hne (by cases e; rfl))).trans h
theorem rr_far {w w' : World} {X Y : Nat} {s : ByteArray} {bad : Bool} (h : IsRR w X s bad) (hg : w.grownBy w' (some Y)) (hne : X ≠ Y) : IsRR w' X s bad :=
  (hg.block X (Array.getElem?_eq_some_iff.1 h).1 (fun e => hne (by cases e; rfl))).trans h
theorem own_two {W W' : World} {base : Nat} {e : TypeId} {size : Nat} {v u : Value} {n : Nat} {xs : List Value} (h : W.ownsRow base e size v n xs) (hg : W.grownBy W' u.ownBlock) (hne : ∀ g, u.ownBlock = some g → v.ownBlock ≠ some g) : W'.ownsRow base e size v n xs := by
  cases hu : u.ownBlock with
  | none => rw [hu] at hg; exact h.kept hg (by cases hv : v.ownBlock <;> simp)
  | some g => rw [hu] at hg; exact h.kept hg (Or.inr (hne g hu))
theorem rd_own {W W' : World} {u : Value} {X : Nat} {a : Addr} {s : ByteArray} {bad : Bool} (h : IsRd W X a s bad) (hg : W.grownBy W' u.ownBlock) (hne : ∀ g, u.ownBlock = some g → X ≠ g) : IsRd W' X a s bad :=
  (hg.block X (Array.getElem?_eq_some_iff.1 h).1 (fun e => hne X e.symm rfl)).trans h
end Go.Proofs.YtjlehlkkgkplmaaDoor
