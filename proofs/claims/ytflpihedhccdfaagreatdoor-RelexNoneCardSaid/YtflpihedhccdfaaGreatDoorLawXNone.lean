/-
  The law RelexNone: true.
-/
import Derived.Test.YtflpihedhccdfaaGreatDoorProg
import Derived.Test.YtflpihedhccdfaaGreatDoorReg
import Derived.WalkKit
import Derived.WalkSpells
import Derived.WalkLawsBesides
import Derived.Lib.Hide
import Derived.Lib.MinMax
import Derived.Deep.QuietTactic
import Derived.BigQuiet
import Derived.OwnWalk
import Derived.Deep.AppendLies
import Derived.KernelRfl
import Derived.Test.YtflpihedhccdfaaGreatDoorRxLo
set_option linter.unusedSimpArgs false
set_option linter.unusedVariables false
namespace Go.Proofs.YtflpihedhccdfaaGreatDoor
open Go Go.RowKit

set_option maxRecDepth 100000 in
set_option maxHeartbeats 8000000 in
theorem relexNone_any (p n : Int) (s : ByteArray) (i : Int) (a d : Addr) (w : World) (hs : s.size ≤ maxLen) (hT : Tabs w) (hL : Laid5 a d w) :
    Calls Tryz.prog 7 #[.int .i64 p, .int .i64 n, .string s, .int .i64 i] w fun e w' => e = .returned (.bool true) ∧ Below w.heap.size w w' := by
  have HS := Lib.hid (shown_any a d w hT hL)
  have HC := Lib.hid (fun u => Cut_any s u hs)
  clear hT hL hs
  go_enter Tryz.func7, Tryz.ntmps7
  go_wp2_with fail
  refine HS.out.mono ?_
  rintro e w1 ⟨rfl, hb1⟩
  go_wp2_with fail
  refine (HC.out _).mono ?_
  rintro e w2 ⟨rfl, rfl⟩
  go_wp2_with fail
  refine (Splice_nil p n (cut4010 s) _).mono ?_
  rintro e w3 ⟨rfl, hb3⟩
  have B3 := Lib.hid (hb1.trans (hb3.mono hb1.size))
  clear hb1 hb3 HC HS
  go_wp2_with (first | (go_at_call 23; refine (Tokens_nil _).mono ?_; rintro e w4 ⟨rfl, rfl⟩) | (go_at_call 17; refine (Line_nil _ _).mono ?_; rintro e w4 ⟨rfl, rfl⟩) |
    (go_at_call 15; refine (Lines_nil _).mono ?_; rintro e w4 ⟨rfl, rfl⟩) | (go_at_call 13; refine (Text_nil _).mono ?_; rintro e w4 ⟨rfl, rfl⟩) |
    (go_at_call 14; refine (Lexed_nil _).mono ?_; rintro e w4 ⟨rfl, rfl⟩))
  go_ret
  exact ⟨rfl, B3.out.alloc B3.out.size _⟩
end Go.Proofs.YtflpihedhccdfaaGreatDoor
