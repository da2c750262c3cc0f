/-
  The walks of 'Plain', of both, of 'IsName'.
-/
import Derived.Test.YteojnejomgomjaaDoorProg
import Derived.Test.YteojnejomgomjaaDoorReg
import Derived.WalkKit
import Derived.WalkSpells
import Derived.WalkLawsBesides
import Derived.Lib.Hide
import Derived.Lib.MinMax
import Derived.Deep.QuietTactic
import Derived.BigQuiet
import Derived.OwnWalk
import Derived.Deep.AppendLies
import Derived.KernelRfl
import Derived.Test.YteojnejomgomjaaDoorLxLn
set_option linter.unusedSimpArgs false
set_option linter.unusedVariables false
namespace Go.Proofs.YteojnejomgomjaaDoor
open Go.RowKit Go.Maps

def isPlain (x : Tok) : Bool := decide (x.kind ≠ 1) && decide (x.kind ≠ 2)
def plainT (l : List Tok) : List Tok := l.filter isPlain
theorem plainT_snoc {l : List Tok} {k : Nat} {x : Tok} (h : l[k]? = some x) : plainT (l.take (k + 1)) = plainT (l.take k) ++ (if isPlain x = true then [x] else []) := by
  unfold plainT
  rw [take_one h, List.filter_append]
  congr 1
  by_cases hx : isPlain x = true
  · rw [if_pos hx]; simp [hx]
  · rw [if_neg hx]; simp [hx]
theorem plain_ways (x : Tok) : (isPlain x = false ∧ (x.kind != 1) = false) ∨ (isPlain x = false ∧ (x.kind != 1) = true ∧ (x.kind != 2) = false) ∨ (isPlain x = true ∧ (x.kind != 1) = true ∧ (x.kind != 2) = true) := by
  unfold isPlain
  by_cases h1 : x.kind = 1
  · exact .inl ⟨by simp [h1], by simp [h1]⟩
  · by_cases h2 : x.kind = 2
    · exact .inr (.inl ⟨by simp [h2], by simp [h1], by simp [h2]⟩)
    · exact .inr (.inr ⟨by simp [h1, h2], by simp [h1], by simp [h2]⟩)
theorem plain_len (l : List Tok) : (plainT l).length ≤ l.length := List.length_filter_le _ _

set_option maxRecDepth 100000 in
set_option maxHeartbeats 8000000 in
theorem Plain_any (l : List Tok) (A : Option Addr) (c : Nat) (w : World) (hl : l.length ≤ 100000) (hA : HoldsT w A l) :
    Calls Tryd.prog 16 #[.slice A l.length c] w fun e w' => ∃ v, e = .returned v ∧ w'.ownsRow w.heap.size tK 3 v (plainT l).length (tokCells (plainT l)) ∧ Below w.heap.size w w' := by
  have HA := Lib.hid hA
  clear hA
  go_enter Tryd.func16, Tryd.ntmps16
  go_wp2_with fail
  go_loopw [3, 8] (fun v i wr => ∃ (k : Nat) (L : List Tok), i = .int .i64 k ∧ k ≤ l.length ∧ Hid (L = plainT (l.take k)) ∧ Hid (wr.ownsRow w.heap.size tK 3 v L.length (tokCells L)) ∧ Hid (Below w.heap.size w wr)) (fun _ i _ => l.length - (intOf i).toNat)
  case atStart => exact ⟨0, [], rfl, Nat.zero_le _, Lib.hid rfl, Lib.hid (World.ownsRow_nil _ _ _ _), Lib.hid (Below.refl _ _)⟩
  case round =>
    obtain ⟨k, L, rfl, hk, HL, HO, HB⟩ := hrel
    by_cases hlt : k < l.length
    · have ga := List.getElem?_eq_getElem (l := l) (i := k) hlt
      have hsn := plainT_snoc ga
      generalize l[k]'hlt = x at *
      have hLl : L.length ≤ 100000 := by
        have h1 := plain_len (l.take k)
        rw [HL.out, List.length_take] at *
        omega
      have HSN := Lib.hid hsn
      obtain ⟨b, off, rfl, d0, d1, d2⟩ := (HA.out.below HB.out) k x ga
      have hsz := HB.out.size
      clear ga hsn
      have lb := cell_lt d0
      simp only at lb
      have hB1 : Below wr.heap.size wr (wr.alloc (.cells #[.int .i64 x.kind, .string x.text, .string x.glyph] tK)) := below_new wr _
      have hB2 := (hB1.mono (Nat.le_refl _)).alloc hB1.size (.cells #[.int .i64 x.kind, .string x.text, .string x.glyph] tK)
      obtain ⟨A5, c5, rfl, _, _, _⟩ := holdsT_of_own HO.out
      rcases plain_ways x with ⟨hp, q1⟩ | ⟨hp, q1, q2⟩ | ⟨hp, q1, q2⟩
      · have HL2 : Hid (L = plainT (l.take (k + 1))) := Lib.hid (by rw [HSN.out, hp, if_neg (by simp), List.append_nil]; exact HL.out)
        have HO2 := Lib.hid (own_below HO.out hB1)
        have HB2 := Lib.hid (HB.out.alloc hsz (.cells #[.int .i64 x.kind, .string x.text, .string x.glyph] tK))
        clear hp HSN hB1 hB2
        go_wp2_with fail
        go_roundw
        case rel => exact ⟨k + 1, L, by go_num, by omega, HL2, HO2, HB2⟩
        case measure => simp [intOf]; omega
      · have HL2 : Hid (L = plainT (l.take (k + 1))) := Lib.hid (by rw [HSN.out, hp, if_neg (by simp), List.append_nil]; exact HL.out)
        have HO2 := Lib.hid (own_below HO.out hB1)
        have HB2 := Lib.hid (HB.out.alloc hsz (.cells #[.int .i64 x.kind, .string x.text, .string x.glyph] tK))
        clear hp HSN hB1 hB2
        go_wp2_with fail
        go_roundw
        case rel => exact ⟨k + 1, L, by go_num, by omega, HL2, HO2, HB2⟩
        case measure => simp [intOf]; omega
      · have HL2 : Hid (L ++ [x] = plainT (l.take (k + 1))) := Lib.hid (by rw [HSN.out, hp, if_pos rfl, ← HL.out])
        have hO2 := own_below HO.out hB2
        have hz1 : (wr.alloc (.cells #[.int .i64 x.kind, .string x.text, .string x.glyph] tK)).heap.size = wr.heap.size + 1 := by simp
        have hgx := heap_alloc_new (wr.alloc (.cells #[.int .i64 x.kind, .string x.text, .string x.glyph] tK)) (.cells #[.int .i64 x.kind, .string x.text, .string x.glyph] tK)
        rw [hz1] at hgx
        obtain ⟨A9, c9, w9, hrun, hN9, hgr9, _⟩ := push_tok (x := x) (g := wr.heap.size + 1) hgx hO2 (by omega) (by simp; omega)
        have HN9 := Lib.hid hN9
        have HB9 := Lib.hid ((HB.out.trans (hB2.mono hsz)).grown hgr9 (by simp; omega) (fun kk e => ownBlock_ge HO.out kk e))
        clear hp HSN hB1 hB2 hO2 hgx hN9 hgr9 hz1
        go_wp2_with (at_builtin; go_must (refine wpList_append_run rfl _ _ 23 23 rfl rfl rfl hrun ?_))
        go_roundw
        case rel => exact ⟨k + 1, _, by go_num, by omega, HL2, HN9, HB9⟩
        case measure => simp [intOf]; omega
    · obtain rfl : k = l.length := by omega
      have HL2 : Hid (L = plainT l) := Lib.hid (by rw [HL.out, List.take_of_length_le (Nat.le_refl _)])
      go_wp2_with fail
      go_ret
      exact ⟨_, rfl, by rw [← HL2.out]; exact HO.out, HB.out⟩
end Go.Proofs.YteojnejomgomjaaDoor
