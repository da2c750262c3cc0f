/-
  A lexer's text: by the program.
-/
import Derived.Test.YtflpihedhccdfaaGreatDoorProg
import Derived.Test.YtflpihedhccdfaaGreatDoorReg
import Derived.WalkKit
import Derived.WalkSpells
import Derived.WalkLawsBesides
import Derived.Lib.Hide
import Derived.Lib.MinMax
import Derived.Deep.QuietTactic
import Derived.BigQuiet
import Derived.OwnWalk
import Derived.Deep.AppendLies
import Derived.KernelRfl
import Derived.Laws.OwnMore
import Derived.Deep.OwnRows
import Derived.Test.YtflpihedhccdfaaGreatDoorLxM6
import Derived.Test.YtflpihedhccdfaaGreatDoorRxSp
import Derived.Test.YtflpihedhccdfaaGreatDoorRxF
set_option linter.unusedSimpArgs false
set_option linter.unusedVariables false
namespace Go.Proofs.YtflpihedhccdfaaGreatDoor
open Go.RowKit Go.Maps

def strCells (l : List ByteArray) : List Value := l.map Value.string
def textsOf (l : List Ln) : List ByteArray := l.map (·.text)
theorem textsOf_step {l : List Ln} {k : Nat} {x : Ln} (h : l[k]? = some x) : textsOf (l.take (k + 1)) = textsOf (l.take k) ++ [x.text] := by
  unfold textsOf; rw [take_one h, List.map_append]; rfl
theorem strCells_step {l : List Ln} {k : Nat} {x : Ln} (h : l[k]? = some x) : strCells (textsOf (l.take (k + 1))) = strCells (textsOf (l.take k)) ++ [.string x.text] := by
  rw [textsOf_step h]; simp [strCells]
def joinT (l : List Ln) : ByteArray := toB (join10 (listsOf (textsOf l)))

theorem lib_join : ∀ ps : List (List UInt8), Lib.join ps [10] = join10 ps
  | [] => rfl
  | [p] => by rw [Lib.join_one]; rfl
  | p :: q :: ps => by
    have ih := lib_join (q :: ps)
    rw [Lib.join_cons] at ih ⊢
    rw [join10, ← ih]
    simp [Lib.joinTail]
theorem joinT_le : ∀ l : List Ln, (join10 (listsOf (textsOf l))).length ≤ startL l l.length
  | [] => by simp [textsOf, listsOf, join10]
  | [x] => by simp [textsOf, listsOf, join10, startL]
  | x :: y :: l => by
    have ih := joinT_le (y :: l)
    unfold startL at ih ⊢
    rw [List.take_length] at ih ⊢
    simp only [textsOf, listsOf, List.map_cons, join10, List.sum_cons, List.length_append, List.length_cons, bytes_len] at ih ⊢
    omega
theorem holdsS_of_own {w : World} {base : Nat} {e : TypeId} {v : Value} {n : Nat} {l : List ByteArray} (h : w.ownsRow base e 1 v n (strCells l)) :
    ∃ A c, v = .slice A l.length c ∧ l.length ≤ c ∧ (l = [] ∨ ∃ g, A = some ⟨g, 0, none⟩ ∧ g < w.heap.size ∧ ∀ (j : Nat) (x : ByteArray), l[j]? = some x → w.cell? ⟨g, 0 + j, none⟩ = some (.string x)) := by
  have hn : n = l.length := by have h1 := h.1; simp [strCells] at h1; omega
  subst hn
  have hlt := ownBlock_lt h
  rcases h.2 with ⟨rfl, h0⟩ | ⟨g, cap, cur, rfl, _, _, hcap, _⟩
  · have : l = [] := List.eq_nil_of_length_eq_zero h0
    subst this
    exact ⟨none, 0, rfl, Nat.le_refl _, Or.inl rfl⟩
  · refine ⟨some ⟨g, 0, none⟩, cap, rfl, hcap, Or.inr ⟨g, rfl, hlt g rfl, fun k x hx => ?_⟩⟩
    have hc := h.cells (g := g) rfl
    have h1 : (strCells l)[k]? = some (.string x) := by simp [strCells, hx]
    have c1 := hc _ _ h1
    have ea : ∀ j, (⟨g, 0, none⟩ : Addr).add j = ⟨g, 0 + j, none⟩ := fun j => by
      unfold Addr.add
      split
      · rename_i h; subst h; rfl
      · rfl
    rw [ea] at c1
    exact c1

set_option maxRecDepth 100000 in
set_option maxHeartbeats 8000000 in
theorem whole_any (X : Nat) (A : Option Addr) (c : Nat) (l : List Ln) (w : World) (hl : l.length ≤ 1000000) (hsz : startL l l.length ≤ 1000000)
    (hX : w.cell? ⟨X, 0, none⟩ = some (.slice A l.length c)) (hH : HoldsL w A l) :
    Calls Tryz.prog 29 #[.pointer (some ⟨X, 0, none⟩)] w fun e w' => e = .returned (.string (joinT l)) ∧ Below w.heap.size w w' := by
  obtain ⟨i0, hi0, hz0, hz1, hz2⟩ := info_parts infoStr
  have lX := cell_lt hX
  go_enter Tryz.func29, Tryz.ntmps29
  go_wp2_with fail
  go_loopw [3, 11] (fun v i wr => ∃ (k : Nat), k ≤ l.length ∧ i = .int .i64 k ∧ wr.ownsRow w.heap.size 9 1 v k (strCells (textsOf (l.take k))) ∧ Below w.heap.size w wr) (fun _ i _ => l.length - (intOf i).toNat)
  case atStart => exact ⟨0, by omega, rfl, World.ownsRow_nil _ _ _ _, Below.refl _ _⟩
  case round =>
    obtain ⟨k, hk, rfl, hown, hlow⟩ := hrel
    by_cases hlt : k < l.length
    · have hx := List.getElem?_eq_getElem hlt
      obtain ⟨b, off, rfl, c1, c2⟩ := (hH.below hlow) k l[k] hx
      have hT := strCells_step hx
      generalize l[k] = x at *
      have HT := Lib.hid hT
      have HX := Lib.hid hx
      clear hx hT
      have hsw := hlow.size
      go_wp2_with (at_builtin; go_must (refine wpList_append_own _ rfl _ _ 70 rfl w.heap.size 9 i0 _ 1 16 Tryz.underlying70 hi0 hz0 hz1 hz2 rfl (by decide) u3 k _ rfl ((hown.alloc _).alloc _) ⟨wr.heap.size + 1, 0, none⟩ 1 1 [.string x.text] rfl rfl (by have := cell_one_new (wr.alloc (.cells #[.string x.text, .slice x.row x.n x.c] 75)) (.string x.text) 9; simpa using this) (by simp [Value.oneCell']) (by unfold maxLen; omega) (by omega) (by simp; omega) ?_); go_must (intro v1 w3 hown3 hg3 _))
      go_roundw
      case rel =>
        refine ⟨k + 1, by omega, by go_num, ?_, ((hlow.alloc hsw _).alloc (by simp; omega) _).grown hg3 (by simp; omega) (ownBlock_ge hown)⟩
        rw [HT.out]
        exact hown3
      case measure => simp [intOf]; omega
    · obtain rfl : k = l.length := by omega
      rw [List.take_length] at hown
      obtain ⟨A2, c2, rfl, hcap, hways⟩ := holdsS_of_own hown
      have hlen : (textsOf l).length = l.length := by simp [textsOf]
      have hJ : Calls Tryz.prog 41 #[.slice A2 (textsOf l).length c2, .string ⟨#[10]⟩] wr fun e w' => e = .returned (.string (joinT l)) ∧ Below wr.heap.size wr w' := by
        rcases hways with h0 | ⟨g, rfl, hg, hcells⟩
        · have hj : joinT l = ⟨#[]⟩ := by unfold joinT; rw [h0]; rfl
          rw [h0, hj]
          exact (Lay_strings_Join_none A2 c2 ⟨#[10]⟩ wr).mono fun e w' ⟨h1, h2⟩ => ⟨h1, h2 ▸ Below.refl _ _⟩
        · have hl10 : (⟨#[10]⟩ : ByteArray).data.toList = [10] := rfl
          have hjl := joinT_le l
          have hj := Lay_strings_Join g 0 c2 (textsOf l) ⟨#[10]⟩ wr hcells hg (by omega) hcap (by rw [hl10, lib_join]; unfold listsOf at hjl; omega)
          rw [hl10, lib_join] at hj
          exact hj
      rw [hlen] at hJ
      try rw [hlen]
      have HJ := Lib.hid hJ
      clear hJ hways hown
      go_wp2_with fail
      refine HJ.out.mono ?_
      rintro e w2 ⟨rfl, hb2⟩
      go_wp2_with fail
      go_ret
      exact ⟨rfl, hlow.trans (hb2.mono hlow.size)⟩
end Go.Proofs.YtflpihedhccdfaaGreatDoor
