/-
  Where a lexer's lines begin: the iterator.
-/
import Derived.Test.YtflpihedhccdfaaGreatDoorProg
import Derived.Test.YtflpihedhccdfaaGreatDoorReg
import Derived.WalkKit
import Derived.WalkSpells
import Derived.WalkLawsBesides
import Derived.Lib.Hide
import Derived.Lib.MinMax
import Derived.Deep.QuietTactic
import Derived.BigQuiet
import Derived.OwnWalk
import Derived.Deep.AppendLies
import Derived.KernelRfl
import Derived.RangeFuncNested
import Derived.RangeFuncBound
import Derived.RangeFuncCalls
import Derived.RangeFuncLeaves
import Derived.RangeFuncBox
import Derived.OwnWalkIn
import Derived.TacticsInMore
import Derived.LoopNIn
import Derived.LoopIn
import Derived.Deep.RegionLaw
import Derived.Deep.Cut
import Derived.Test.YtflpihedhccdfaaGreatDoorRegIn
import Derived.Test.YtflpihedhccdfaaGreatDoorJoint2
import Derived.Test.YtflpihedhccdfaaGreatDoorLxM4
import Derived.Test.YtflpihedhccdfaaGreatDoorRxT
set_option linter.unusedSimpArgs false
set_option linter.unusedVariables false
namespace Go.Proofs.YtflpihedhccdfaaGreatDoor
open Go.RowKit Go.Maps

attribute [local go_sem] Oper.semAt_some

theorem begins_any (X : Addr) (w : World) :
    Calls Tryz.prog 42 #[.pointer (some X)] w fun e w' => e = .returned (.func (.func 64) #[] #[.pointer (some ⟨w.heap.size, 0, none⟩)]) ∧ w' = w.alloc (.cells #[.pointer (some X)] 84) := by
  go_enter Tryz.func42, Tryz.ntmps42
  go_wp2_with fail
  go_ret
  exact ⟨rfl, rfl⟩

theorem startL_le (l : List Ln) (k : Nat) : startL l k ≤ startL l l.length := by
  unfold startL
  rw [List.take_length]
  conv => rhs; rw [← List.take_append_drop k l]
  rw [List.map_append, List.sum_append]
  omega

set_option maxRecDepth 100000 in
set_option maxHeartbeats 8000000 in
theorem begins1_any (n : Nat) (L sb X : Nat) (A : Option Addr) (c : Nat) (l : List Ln) (J : Nat → World → Prop) (W : World) (hl : l.length ≤ 1000000) (hsz : startL l l.length ≤ 1000000)
    (hb : W.cell? ⟨sb, 0, none⟩ = some (.pointer (some ⟨X, 0, none⟩))) (hX : W.cell? ⟨X, 0, none⟩ = some (.slice A l.length c)) (h0 : J 0 W)
    (hst : ∀ k W1 W2, J k W1 → Below W1.heap.size W1 W2 → J k W2) (hH : ∀ k W1, J k W1 → HoldsL W1 A l)
    (hY : ∀ (k : Nat) (x : Ln) (W0 W1 : World), l[k]? = some x → J k W0 → W.heap.size ≤ W0.heap.size → Below W0.heap.size W0 W1 → YieldAt Fence.wide n Tryz.prog L #[.int .i64 k, .int .i64 (startL l k)] W1 fun e W' =>
      e = .returned (.bool true) ∧ J (k + 1) W' ∧ W1.heap.size ≤ W'.heap.size ∧ ∀ j, W0.heap.size ≤ j → j < W1.heap.size → W'.heap[j]? = W1.heap[j]?) :
    Calls Tryz.prog 64 #[.func (.yield L) #[] #[], .pointer (some ⟨sb, 0, none⟩)] W fun e W' => (∃ v, e = .returned v) ∧ J l.length W' := by
  have HY := Lib.hid hY
  have HST := Lib.hid hst
  have HH := Lib.hid hH
  have H0 := Lib.hid h0
  clear hY hst hH h0
  have lb := cell_lt hb
  have lx := cell_lt hX
  generalize hn : W.heap.size = n0 at *
  go_enter Tryz.func64, Tryz.ntmps64
  go_wp2_with fail
  go_step3
  go_wp2_with fail
  go_step3
  go_wp2_with fail
  go_loopw [3, 11] (fun at_ i wr => ∃ (k : Nat), k ≤ l.length ∧ i = .int .i64 k ∧ at_ = .int .i64 (startL l k) ∧ Hid (J k wr) ∧ n0 ≤ wr.heap.size) (fun _ i _ => l.length - (intOf i).toNat)
  case atStart => exact ⟨0, by omega, rfl, rfl, H0, by omega⟩
  case round =>
    obtain ⟨k, hk, rfl, rfl, HJ, hz⟩ := hrel
    by_cases hlt : k < l.length
    · have hx := List.getElem?_eq_getElem hlt
      obtain ⟨b, off, rfl, c1, c2⟩ := HH.out _ _ HJ.out k l[k] hx
      have hsucc := startL_succ hx
      have hle := startL_le l (k + 1)
      generalize l[k] = x at *
      have HX := Lib.hid hx
      have HS := Lib.hid hsucc
      clear hx
      go_upto_region 4 with fail
      have hX3 := heap_alloc_new wr (.cells #[.string x.text, .slice x.row x.n x.c] 75)
      have hB3 := below_new wr (.cells #[.string x.text, .slice x.row x.n x.c] 75)
      have hz3 : (wr.alloc (.cells #[.string x.text, .slice x.row x.n x.c] 75)).heap.size = wr.heap.size + 1 := by simp
      generalize wr.alloc (.cells #[.string x.text, .slice x.row x.n x.c] 75) = w3 at *
      obtain ⟨fn, tmps, assign, body, hy, hRd⟩ := HY.out k x wr w3 HX.out HJ.out hz hB3
      have HRo := Lib.hid hRd
      have HX3 := Lib.hid hX3
      clear hRd hX3 hB3 HJ
      refine (wpIn_wide (n := n + 1)).1 ?_
      gi_wp2_with fail
      refine HRo.out.mono ?_
      rintro e w4 ⟨rfl, hJ4, hz34, hA4⟩
      have hX4 := (hA4 wr.heap.size (by omega) (by omega)).trans HX3.out
      have y0 : w4.cell? ⟨wr.heap.size, 0, none⟩ = some (.string x.text) := by simp [World.cell?, hX4]
      have HJ4 := Lib.hid hJ4
      clear hX4 hA4 hJ4 HX3 HRo c1 c2
      gi_wp2_with fail
      go_wp2_with fail
      go_roundw
      case rel => exact ⟨k + 1, by omega, by go_num, by rw [HS.out]; go_num, HJ4, by omega⟩
      case measure => simp [intOf]; omega
    · obtain rfl : k = l.length := by omega
      go_wp2_with fail
      try rw [Exit.noGoto_normal]
      go_end0
      exact ⟨⟨_, rfl⟩, HJ.out⟩
end Go.Proofs.YtflpihedhccdfaaGreatDoor
