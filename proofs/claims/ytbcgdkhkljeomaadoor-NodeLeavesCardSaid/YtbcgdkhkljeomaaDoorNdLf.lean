/-
  Leaves: by the program, by the reference.
-/
import Derived.Test.YtbcgdkhkljeomaaDoorProg
import Derived.Test.YtbcgdkhkljeomaaDoorReg
import Derived.WalkKit
import Derived.WalkSpells
import Derived.WalkLawsBesides
import Derived.Lib.Hide
import Derived.Lib.MinMax
import Derived.Deep.QuietTactic
import Derived.BigQuiet
import Derived.OwnWalk
import Derived.Deep.AppendLies
import Derived.KernelRfl
import Derived.Test.YtbcgdkhkljeomaaDoorNdRj
set_option linter.unusedSimpArgs false
set_option linter.unusedVariables false
namespace Go.Proofs.YtbcgdkhkljeomaaDoor
open Go.RowKit

set_option maxRecDepth 100000 in
set_option maxHeartbeats 8000000 in
theorem leaf_any (kind : Int) (text : ByteArray) (a : Addr) (w : World) (hk : (Lit.int .i64 kind).wf = true) (hx : text.size ≤ 1000000) (he : errNodeAt a w) :
    Calls Tryd.prog 12 #[.int .i64 kind, .string text] w fun e w' => JoinDone kind text [] e w w' := by
  have HJ := Lib.hid (join_any kind text [] none 0 a w hk hx (by simp) (HoldsTs.nil _ _) (fun t ht => by simp at ht) he)
  rw [List.length_nil] at HJ
  go_enter Tryd.func12, Tryd.ntmps12
  go_wp2_with fail
  refine HJ.out.mono ?_
  intro e w2 hd
  obtain ⟨h1, hb⟩ := hd
  cases hj : joinN kind text [] with
  | none =>
    rw [hj] at h1
    simp only at h1
    subst h1
    go_wp2_with fail
    go_ret2
    exact ⟨by rw [hj]; rfl, hb⟩
  | some out =>
    rw [hj] at h1
    obtain ⟨v, L, rfl, hN, hM⟩ := h1
    go_wp2_with fail
    go_ret2
    exact ⟨by rw [hj]; exact ⟨v, L, rfl, hN, hM⟩, hb⟩
set_option maxRecDepth 100000 in
set_option maxHeartbeats 8000000 in
theorem refLeaf_any (kind : Int) (text : ByteArray) (w : World) (hk : (Lit.int .i64 kind).wf = true) (hx : text.size ≤ 1000000) :
    Calls Tryd.prog 14 #[.int .i64 kind, .string text] w fun e w' => JoinDone kind text [] e w w' := by
  have HJ := Lib.hid (refJoin_any kind text [] none 0 w hk hx (by simp) (HoldsTs.nil _ _) (fun t ht => by simp at ht))
  rw [List.length_nil] at HJ
  go_enter Tryd.func14, Tryd.ntmps14
  go_wp2_with fail
  refine HJ.out.mono ?_
  intro e w2 hd
  obtain ⟨h1, hb⟩ := hd
  cases hj : joinN kind text [] with
  | none =>
    rw [hj] at h1
    simp only at h1
    subst h1
    go_wp2_with fail
    go_ret2
    exact ⟨by rw [hj]; rfl, hb⟩
  | some out =>
    rw [hj] at h1
    obtain ⟨v, L, rfl, hN, hM⟩ := h1
    go_wp2_with fail
    go_ret2
    exact ⟨by rw [hj]; exact ⟨v, L, rfl, hN, hM⟩, hb⟩
end Go.Proofs.YtbcgdkhkljeomaaDoor
