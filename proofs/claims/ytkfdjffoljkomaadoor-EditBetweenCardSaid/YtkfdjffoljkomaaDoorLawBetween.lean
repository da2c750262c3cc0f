/-
  The walk of the statement EditBetween.
-/
import Derived.Test.YtkfdjffoljkomaaDoorProg
import Derived.Test.YtkfdjffoljkomaaDoorReg
import Derived.WalkKit
import Derived.WalkSpells
import Derived.WalkLawsBesides
import Derived.Lib.Hide
import Derived.Lib.MinMax
import Derived.Deep.QuietTactic
import Derived.BigQuiet
import Derived.OwnWalk
import Derived.Deep.AppendLies
import Derived.KernelRfl
import Derived.Test.YtkfdjffoljkomaaDoorEdJ
import Derived.Test.YtkfdjffoljkomaaDoorEdV
import Derived.Test.YtkfdjffoljkomaaDoorEdLr
import Derived.Test.YtkfdjffoljkomaaDoorEdMk
set_option linter.unusedSimpArgs false
set_option linter.unusedVariables false
namespace Go.Proofs.YtkfdjffoljkomaaDoor
open Go.RowKit

set_option maxRecDepth 100000 in
set_option maxHeartbeats 4000000 in
theorem editBetween_any (s t : ByteArray) (b : Addr) (w : World) (hs : s.size ≤ maxLen) (ht : t.size ≤ maxLen) (hg : ErrAt b w) :
    Calls Tryd.prog 7 #[.string s, .string t] w fun e w' => e = .returned (.bool true) ∧ Below w.heap.size w w' := by
  have HS := Lib.hid (shown_any b w hg)
  clear hg
  go_enter Tryd.func7, Tryd.ntmps7
  go_wp2_with fail
  refine HS.out.mono ?_
  rintro e w1 ⟨rfl, hb1⟩
  go_wp2_with fail
  refine (show Calls _ _ _ _ fun e w' => e = .returned (.string (cut s)) ∧ w1 = w' from cut_any s w1 hs).mono ?_
  rintro e w1' ⟨rfl, rfl⟩
  have hcs := cut_small s
  generalize cut s = S at *
  go_wp2_with fail
  refine (show Calls _ _ _ _ fun e w' => e = .returned (.string (cut t)) ∧ w1 = w' from cut_any t w1 ht).mono ?_
  rintro e w1' ⟨rfl, rfl⟩
  have hct := cut_small t
  generalize cut t = T at *
  clear HS hs ht
  have hl1 := between_le S T
  have hl2 : (linesOut S T).length ≤ 1000000 := by have := (mild_lines hcs hct).1; omega
  go_wp2_with fail
  refine (between_any S T w1 (by omega) (by omega)).mono ?_
  rintro e w2 ⟨B, d, rfl, hH2, hd2, hb2⟩
  have b12 : Below w.heap.size w w2 := hb1.trans (hb2.mono hb1.size)
  clear hb1 hb2
  go_wp2_with fail
  refine (refBetween_any S T w2 (by omega) (by omega)).mono ?_
  rintro e w3 ⟨C, c, rfl, hH3, hc3, hb3, -⟩
  have hH23 := hH2.below hb3
  have b13 : Below w.heap.size w w3 := b12.trans (hb3.mono b12.size)
  clear hb3 b12 hH2
  go_wp2_with fail
  refine (refSame_any B C d c (between S T) (between S T) w3 (by omega) (by omega) hH23 hH3).mono ?_
  rintro e w4 ⟨rfl, n4, rfl⟩
  simp only [decide_true]
  have b14 := below_drewN b13 n4
  clear b13 hH23 hH3
  go_wp2_with fail
  refine (lines_any S T (w3.drewN n4) (by omega) (by omega)).mono ?_
  rintro e w5 ⟨B2, d2, rfl, hH5, hd5, hb5⟩
  have b15 : Below w.heap.size w w5 := b14.trans (hb5.mono b14.size)
  clear hb5 b14
  go_wp2_with fail
  refine (refLines_any S T w5 (by omega) (by omega)).mono ?_
  rintro e w6 ⟨C2, c2, rfl, hH6, hc6, hb6⟩
  have hH56 := hH5.below hb6
  have b16 : Below w.heap.size w w6 := b15.trans (hb6.mono b15.size)
  clear hb6 b15 hH5
  go_wp2_with fail
  refine (refSame_any B2 C2 d2 c2 (linesOut S T) (linesOut S T) w6 hl2 hl2 hH56 hH6).mono ?_
  rintro e w7 ⟨rfl, n7, rfl⟩
  simp only [decide_true]
  go_wp2_with fail
  go_ret
  exact ⟨rfl, below_drewN b16 n7⟩
end Go.Proofs.YtkfdjffoljkomaaDoor
