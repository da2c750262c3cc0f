/-
  The map of closers; what opens, what is a bracket, by the program; partners, by the document.
-/
import Derived.Test.YtlokkdbgihbnhabDoorProg
import Derived.Test.YtlokkdbgihbnhabDoorReg
import Derived.WalkKit
import Derived.WalkSpells
import Derived.WalkLawsBesides
import Derived.Lib.Hide
import Derived.Lib.MinMax
import Derived.Deep.QuietTactic
import Derived.BigQuiet
import Derived.OwnWalk
import Derived.Deep.AppendLies
import Derived.KernelRfl
import Derived.Test.YtlokkdbgihbnhabDoorGrpB
set_option linter.unusedSimpArgs false
set_option linter.unusedVariables false
namespace Go.Proofs.YtlokkdbgihbnhabDoor
open Go.RowKit

/-- What closes a glyph. -/
def closeOf (g : ByteArray) : Option ByteArray := if g = gCur then some gCus else if g = gPar then some gPas else none
def look2 (x : ByteArray) : Option Value := if x = gCur then some (.string gCus) else if x = gPar then some (.string gPas) else none
theorem look2_is (g : ByteArray) : look2 g = (closeOf g).map Value.string := by
  unfold look2 closeOf
  split
  · rfl
  · split <;> rfl

set_option maxRecDepth 100000 in
set_option maxHeartbeats 1000000 in
theorem closers_any (w : World) :
    Calls Tryd.prog 44 #[] w fun r w' => r = .returned (.map (some w.heap.size)) ∧ MapIs w' Tryd.prog 9 w.heap.size 2 look2 ∧ Below w.heap.size w w' := by
  have hmm := @run_makeMap Tryd.prog
  have hk := Tryd.underlying9
  have ht := Tryd.underlying92
  obtain ⟨w1, r1, m1, g1⟩ := (MapIs.made w Tryd.prog 9).put hk ht (by unfold maxLen; omega) gPar (by decide) (.string gPas)
  obtain ⟨w2, r2, m2, g2⟩ := m1.put hk ht (by unfold maxLen; omega) gCur (by decide) (.string gCus)
  have hb2 : Below w.heap.size w w2 := by
    have h0 : Below w.heap.size w (w.alloc (.map #[] 0)) := (Below.refl _ _).alloc (Nat.le_refl _) _
    have st : ∀ {u v : World}, Below w.heap.size w u → u.grownBy v (some w.heap.size) → Below w.heap.size w v := fun hu hg => hu.grown hg hu.size (fun k hk => by cases hk; exact Nat.le_refl _)
    exact st (st h0 g1) g2
  have m2' : MapIs w2 Tryd.prog 9 w.heap.size 2 look2 := m2
  have B := Lib.hid hb2
  have M := Lib.hid m2'
  clear m1 m2 m2' g1 g2 hb2
  unfold gPar gPas at r1
  unfold gCur gCus at r2
  go_enter Tryd.func44, Tryd.ntmps44
  go_wp2_with fail
  go_ret
  exact ⟨rfl, M.out, B.out⟩

/-- What 'opens' tells. -/
def opensOut (x : Tok) : Value := .tuple #[.string ((closeOf x.glyph).getD ByteArray.empty), .bool ((closeOf x.glyph).isSome && decide (x.kind = 8))]

set_option maxRecDepth 100000 in
set_option maxHeartbeats 1000000 in
theorem opens_any (x : Tok) (w : World) (hx : x.glyph.size ≤ maxLen) :
    Calls Tryd.prog 32 #[x.val] w fun r w' => r = .returned (opensOut x) ∧ Below w.heap.size w w' := by
  obtain ⟨k, t, h⟩ := x
  unfold Tok.val opensOut
  simp only at hx ⊢
  have C := Lib.hid closers_any
  have hk := Tryd.underlying9
  have ht := Tryd.underlying92
  have hz : ∀ u : World, (zeroValue 9).run Tryd.prog u = .ok (.string ByteArray.empty) u := fun u => by kernel_rfl
  go_enter Tryd.func32, Tryd.ntmps32
  go_wp2_with fail
  refine wp_region_four (S := fun w' => w'.cell? ⟨w.heap.size, 0, none⟩ = some (.int .i64 k) ∧ w'.cell? ⟨w.heap.size, 2, none⟩ = some (.string h)) [1, 2] [0, 3, 4] [5, 6] [7, 8] (by kernel_rfl) (by kernel_rfl) (fun _ _ _ _ _ h => h) ⟨by simp, by simp⟩ ?_
  simp only [pick, List.filterMap_cons, List.filterMap_nil, List.getElem?_toArray, List.getElem?_cons_zero, List.getElem?_cons_succ]
  repeat (refine wpHead_step (v := ?_) rfl ?_ ?_; rotate_left; (focus (rintro w1 ⟨c1, c3⟩; go_simp; try with_reducible rfl)); simp only [Act.put, List.setIfInBounds_toArray, List.set_cons_zero, List.set_cons_succ])
  refine wpHead_nil ?_
  refine wpTailK_step rfl (fun K hK => ?_)
  go_wp2_with fail
  refine (C.out _).mono ?_
  rintro r w1 ⟨rfl, hm, hb⟩
  have c1 := (hb.cell (p := ⟨w.heap.size, 0, none⟩) (by simp)).trans (show _ = some (Value.int .i64 k) by simp)
  have c3 := (hb.cell (p := ⟨w.heap.size, 2, none⟩) (by simp)).trans (show _ = some (Value.string h) by simp)
  have B := Lib.hid (((Below.refl w.heap.size w).alloc (Nat.le_refl _) (.cells #[.int .i64 k, .string t, .string h] 30)).drew.trans (hb.mono (by simp)))
  have hl := hm.get true hk ht (hz w1) h hx
  rw [look2_is] at hl
  have lt1 : w.heap.size < w1.heap.size := cell_lt c1
  clear hm hb hk ht hz
  have e1 : ((closeOf h).map Value.string).getD (.string ByteArray.empty) = .string ((closeOf h).getD ByteArray.empty) := by cases closeOf h <;> rfl
  have e2 : ((closeOf h).map Value.string).isSome = (closeOf h).isSome := by cases closeOf h <;> rfl
  rw [e1, e2] at hl
  simp only [if_true] at hl
  clear e1 e2
  obtain ⟨cl, hcl⟩ : ∃ c, (closeOf h).getD ByteArray.empty = c := ⟨_, rfl⟩
  obtain ⟨ok, hok⟩ : ∃ c, (closeOf h).isSome = c := ⟨_, rfl⟩
  rw [hcl, hok] at hl
  have HC := Lib.hid hcl
  have HO := Lib.hid hok
  clear hcl hok
  simp only [World.size_alloc, World.size_drew] at hl
  go_wp2_with fail
  refine hK _ _ ⟨c1, c3⟩ ?_
  clear hK K
  try simp only [Act.put, List.setIfInBounds_toArray, List.set_cons_zero, List.set_cons_succ]
  refine wpTailK_step rfl (fun K hK => ?_)
  go_wp2_with fail
  refine hK _ _ ⟨c1, c3⟩ ?_
  clear hK K
  try simp only [Act.put, List.setIfInBounds_toArray, List.set_cons_zero, List.set_cons_succ]
  refine wpTailK_step rfl (fun K hK => ?_)
  go_wp2_with fail
  refine hK _ _ ⟨c1, c3⟩ ?_
  clear hK K
  try simp only [Act.put, List.setIfInBounds_toArray, List.set_cons_zero, List.set_cons_succ]
  refine wpTailK_nil ?_
  repeat (refine wpHead_step (v := ?_) rfl ?_ ?_; rotate_left; (focus (rintro w1 ⟨c1, c3⟩; go_simp; try with_reducible rfl)); simp only [Act.put, List.setIfInBounds_toArray, List.set_cons_zero, List.set_cons_succ])
  refine wpHead_nil ?_
  refine wpTail_step rfl (fun K hK => ?_)
  go_wp2_with fail
  refine hK _ _ ⟨c1, c3⟩ ?_
  clear hK K
  try simp only [Act.put, List.setIfInBounds_toArray, List.set_cons_zero, List.set_cons_succ]
  refine wpTail_step rfl (fun K hK => ?_)
  go_wp2_with fail
  refine hK _ _ ⟨c1, c3⟩ ?_
  clear hK K
  try simp only [Act.put, List.setIfInBounds_toArray, List.set_cons_zero, List.set_cons_succ]
  refine wpTail_nil ?_
  cases ok with
  | false =>
    go_wp2_with fail
    go_quiet (fail)
    go_wp2_with fail
    go_ret2
    exact ⟨by rw [HC.out, HO.out]; simp, below_drewN B.out _⟩
  | true =>
    by_cases e1 : k = 8
    · subst e1
      go_wp2_with fail
      go_quiet (fail)
      go_wp2_with fail
      go_ret2
      exact ⟨by rw [HC.out, HO.out]; simp, below_drewN B.out _⟩
    · have q : (k == 8) = false := by simpa using e1
      go_wp2_with fail
      go_quiet (fail)
      go_wp2_with fail
      go_ret2
      exact ⟨by rw [HC.out, HO.out]; simp [e1], below_drewN B.out _⟩

/-- Is it a bracket? -/
def Tok.brk (x : Tok) : Bool := ((closeOf x.glyph).isSome && decide (x.kind = 8)) || (x.isSign gPas || x.isSign gCus)

set_option maxRecDepth 100000 in
set_option maxHeartbeats 1000000 in
theorem isBracket_any (x : Tok) (w : World) (hx : x.glyph.size ≤ maxLen) :
    Calls Tryd.prog 19 #[x.val] w fun r w' => r = .returned (.bool x.brk) ∧ Below w.heap.size w w' := by
  have H0 := Lib.hid (fun u => opens_any x u hx)
  have H1 := Lib.hid (fun u => isSign_any x gPas u)
  have H2 := Lib.hid (fun u => isSign_any x gCus u)
  unfold Tok.brk
  unfold opensOut at H0
  obtain ⟨k, t, h⟩ := x
  generalize ((closeOf (Tok.mk k t h).glyph).isSome && decide ((Tok.mk k t h).kind = 8)) = o at *
  generalize (closeOf (Tok.mk k t h).glyph).getD ByteArray.empty = cl at *
  generalize (Tok.mk k t h).isSign gPas = p at *
  generalize (Tok.mk k t h).isSign gCus = q at *
  unfold Tok.val at *
  simp only at *
  go_enter Tryd.func19, Tryd.ntmps19
  go_wp2_with fail
  refine (H0.out _).mono ?_
  rintro r w1 ⟨rfl, hb⟩
  rw [World.size_alloc] at hb
  obtain ⟨c1, c2, c3, b1⟩ := boxed3 hb
  have B1 := Lib.hid b1
  have lt1 : w.heap.size < w1.heap.size := cell_lt c1
  clear hb b1
  cases o with
  | true =>
    go_wp2_with fail
    all_goals go_ret
    all_goals exact ⟨rfl, B1.out⟩
  | false =>
    go_wp2_with fail
    refine (H1.out _).mono ?_
    rintro r w2 ⟨rfl, hb⟩
    have d1 := (hb.cell (cell_lt c1)).trans c1
    have d2 := (hb.cell (cell_lt c2)).trans c2
    have d3 := (hb.cell (cell_lt c3)).trans c3
    have lt2 : w.heap.size < w2.heap.size := cell_lt d1
    have B2 := Lib.hid (B1.out.trans (hb.mono B1.out.size))
    clear hb c1 c2 c3 lt1
    cases p with
    | true =>
      go_wp2_with fail
      all_goals go_ret
      all_goals exact ⟨rfl, B2.out⟩
    | false =>
      go_wp2_with fail
      refine (H2.out _).mono ?_
      rintro r w3 ⟨rfl, hb⟩
      have B3 := Lib.hid (B2.out.trans (hb.mono B2.out.size))
      clear hb
      cases q
      all_goals
        go_wp2_with fail
        all_goals go_ret
        all_goals exact ⟨rfl, B3.out⟩
end Go.Proofs.YtlokkdbgihbnhabDoor
