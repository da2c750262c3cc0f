/-
  The small functions of layer 6: signs, what opens, what closes.
-/
import Derived.Test.YtlokkdbgihbnhabDoorProg
import Derived.Test.YtlokkdbgihbnhabDoorReg
import Derived.WalkKit
import Derived.WalkSpells
import Derived.WalkLawsBesides
import Derived.Lib.Hide
import Derived.Lib.MinMax
import Derived.Deep.QuietTactic
import Derived.BigQuiet
import Derived.OwnWalk
import Derived.Deep.AppendLies
import Derived.KernelRfl
import Derived.Test.YtlokkdbgihbnhabDoorGrpT
import Derived.Test.YtlokkdbgihbnhabDoorMap
set_option linter.unusedSimpArgs false
set_option linter.unusedVariables false
namespace Go.Proofs.YtlokkdbgihbnhabDoor
open Go.RowKit

theorem sign_any (x : Tok) (g : ByteArray) (w : World) :
    Calls Tryd.prog 31 #[x.val, .string g] w fun r w' => r = .returned (.agg #[.int .i64 8, .string x.text, .string g]) ∧ Below w.heap.size w w' := by
  unfold Tok.val
  go_enter Tryd.func31, Tryd.ntmps31
  go_wp2_with fail
  refine bodyPost_ret (results_cell_row rfl _ _ (w.heap.size + 1) 30 #[.int .i64 8, .string x.text, .string g] (0, 0) _ rfl ?_ Tryd.underlying30 rfl (by kernel_rfl)) rfl ?_
  · have := heap_alloc_new (w.alloc (.cells #[.int .i64 x.kind, .string x.text, .string x.glyph] 30)) (.cells #[.int .i64 8, .string x.text, .string g] 30)
    rwa [World.size_alloc] at this
  exact ⟨rfl, ((Below.refl _ _).alloc (Nat.le_refl _) _).alloc (by simp) _⟩

set_option maxRecDepth 100000 in
set_option maxHeartbeats 1000000 in
theorem isSign_any (x : Tok) (g : ByteArray) (w : World) :
    Calls Tryd.prog 18 #[x.val, .string g] w fun r w' => r = .returned (.bool (x.isSign g)) ∧ Below w.heap.size w w' := by
  have HS := Lib.hid (fun u => sign_any x g u)
  unfold Tok.val at *
  unfold Tok.isSign
  generalize x.kind = k at *
  generalize x.glyph = h at *
  generalize x.text = t at *
  go_enter Tryd.func18, Tryd.ntmps18
  go_wp2_with fail
  refine wp_region_head (S := fun w' => w'.cell? ⟨w.heap.size, 0, none⟩ = some (.int .i64 k) ∧ w'.cell? ⟨w.heap.size, 1, none⟩ = some (.string t) ∧ w'.cell? ⟨w.heap.size, 2, none⟩ = some (.string h)) 3 (by kernel_rfl) (by kernel_rfl) (fun _ _ _ _ _ h => h) ⟨by simp, by simp, by simp⟩ ?_
  simp only [List.take_succ_cons, List.take_zero, List.drop_succ_cons, List.drop_zero]
  repeat (refine wpHead_step (v := ?_) rfl ?_ ?_; rotate_left; (focus (rintro w1 ⟨c1, c2, c3⟩; go_simp; try with_reducible rfl)); simp only [Act.put, List.setIfInBounds_toArray, List.set_cons_zero, List.set_cons_succ])
  refine wpHead_nil ?_
  refine wpTail_step rfl (fun K hK => ?_)
  go_wp2_with fail
  refine (HS.out _).mono ?_
  rintro r w' ⟨rfl, hb⟩
  have c1 := (hb.cell (p := ⟨w.heap.size, 0, none⟩) (by simp)).trans (show _ = some (Value.int .i64 k) by simp)
  have c2 := (hb.cell (p := ⟨w.heap.size, 1, none⟩) (by simp)).trans (show _ = some (Value.string t) by simp)
  have c3 := (hb.cell (p := ⟨w.heap.size, 2, none⟩) (by simp)).trans (show _ = some (Value.string h) by simp)
  have B := Lib.hid (((Below.refl w.heap.size w).alloc (Nat.le_refl _) (.cells #[.int .i64 k, .string t, .string h] 30)).drew.trans (hb.mono (by simp)))
  go_wp2_with fail
  refine hK _ _ ⟨c1, c2, c3⟩ ?_
  clear hK K
  try simp only [Act.put, List.setIfInBounds_toArray, List.set_cons_zero, List.set_cons_succ]
  refine wpTail_step rfl (fun K hK => ?_)
  by_cases e1 : k = 8
  · by_cases e2 : h = g
    · subst e1
      subst e2
      have hq := bytes_beq_yes (rfl : h = h)
      have hq2 := bytes_beq_yes (rfl : t = t)
      go_wp2_with fail
      refine hK _ _ ⟨c1, c2, c3⟩ ?_
      clear hK K
      try simp only [Act.put, List.setIfInBounds_toArray, List.set_cons_zero, List.set_cons_succ]
      refine wpTail_step rfl (fun K hK => ?_)
      go_wp2_with fail
      refine hK _ _ ⟨c1, c2, c3⟩ ?_
      clear hK K
      try simp only [Act.put, List.setIfInBounds_toArray, List.set_cons_zero, List.set_cons_succ]
      refine wpTail_nil ?_
      go_wp2_with fail
      go_ret
      exact ⟨by simp, B.out⟩
    · subst e1
      have hq := bytes_beq_no e2
      have hq2 := bytes_beq_yes (rfl : t = t)
      go_wp2_with fail
      refine hK _ _ ⟨c1, c2, c3⟩ ?_
      clear hK K
      try simp only [Act.put, List.setIfInBounds_toArray, List.set_cons_zero, List.set_cons_succ]
      refine wpTail_step rfl (fun K hK => ?_)
      go_wp2_with fail
      refine hK _ _ ⟨c1, c2, c3⟩ ?_
      clear hK K
      try simp only [Act.put, List.setIfInBounds_toArray, List.set_cons_zero, List.set_cons_succ]
      refine wpTail_nil ?_
      go_wp2_with fail
      go_ret
      exact ⟨by simp [e2], B.out⟩
  · have q : (k == 8) = false := by simpa using e1
    go_wp2_with fail
    refine hK _ _ ⟨c1, c2, c3⟩ ?_
    clear hK K
    try simp only [Act.put, List.setIfInBounds_toArray, List.set_cons_zero, List.set_cons_succ]
    refine wpTail_step rfl (fun K hK => ?_)
    go_wp2_with fail
    refine hK _ _ ⟨c1, c2, c3⟩ ?_
    clear hK K
    try simp only [Act.put, List.setIfInBounds_toArray, List.set_cons_zero, List.set_cons_succ]
    refine wpTail_nil ?_
    go_wp2_with fail
    go_ret
    exact ⟨by simp [e1], B.out⟩
end Go.Proofs.YtlokkdbgihbnhabDoor
