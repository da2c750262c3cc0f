/-
  A text's first four thousand and ten bytes: by the laws of layer 1.
-/
import Derived.Test.YtflpihedhccdfaaGreatDoorProg
import Derived.Test.YtflpihedhccdfaaGreatDoorReg
import Derived.WalkKit
import Derived.WalkSpells
import Derived.WalkLawsBesides
import Derived.Lib.Hide
import Derived.Lib.MinMax
import Derived.Deep.QuietTactic
import Derived.BigQuiet
import Derived.OwnWalk
import Derived.Deep.AppendLies
import Derived.KernelRfl
import Derived.Test.YtflpihedhccdfaaGreatDoorLxM2
set_option linter.unusedSimpArgs false
set_option linter.unusedVariables false
namespace Go.Proofs.YtflpihedhccdfaaGreatDoor
open Go.RowKit

def cut4010 (s : ByteArray) : ByteArray := s.extract 0 (min s.size 4010)
theorem cut4010_size (s : ByteArray) : (cut4010 s).size ≤ 4010 := by
  unfold cut4010
  rw [ByteArray.size_extract]
  omega
set_option maxHeartbeats 4000000 in
theorem Cut_any (s : ByteArray) (w : World) (hs : s.size ≤ maxLen) :
    Calls Tryz.prog 10 #[.string s] w fun e w' => e = .returned (.string (cut4010 s)) ∧ w' = w := by
  unfold maxLen at hs
  unfold cut4010
  have e : (min (s.size : Int) 4010).toNat = min s.size 4010 := by omega
  go_enter Tryz.func10, Tryz.ntmps10
  go_wp2
  go_ret
  exact ⟨by rw [← e]; rfl, rfl⟩
end Go.Proofs.YtflpihedhccdfaaGreatDoor
