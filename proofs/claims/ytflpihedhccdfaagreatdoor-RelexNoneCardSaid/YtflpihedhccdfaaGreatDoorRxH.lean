/-
  Lists of lines put one behind the other: by the library.
-/
import Derived.Test.YtflpihedhccdfaaGreatDoorProg
import Derived.Test.YtflpihedhccdfaaGreatDoorReg
import Derived.WalkKit
import Derived.WalkSpells
import Derived.WalkLawsBesides
import Derived.Lib.Hide
import Derived.Lib.MinMax
import Derived.Deep.QuietTactic
import Derived.BigQuiet
import Derived.OwnWalk
import Derived.Deep.AppendLies
import Derived.KernelRfl
import Derived.Lib.AppendZeros
import Derived.Laws.OwnMore
import Derived.Test.YtflpihedhccdfaaGreatDoorRxAp
set_option linter.unusedSimpArgs false
set_option linter.unusedVariables false
namespace Go.Proofs.YtflpihedhccdfaaGreatDoor
open Go Go.RowKit

set_option maxRecDepth 100000 in
set_option maxHeartbeats 4000000 in
theorem Grow_nil (n : Nat) (w : World) (h0 : 0 < n) (hn : n ≤ 10000) :
    Calls Tryz.prog 43 #[.slice none 0 0, .int .i64 n] w fun e w' => ∃ v, e = .returned v ∧ w'.ownsRow w.heap.size 75 2 v 0 [] ∧ Below w.heap.size w w' := by
  obtain ⟨i0, hi0, hz0, hz1, hz2⟩ := info_parts infoLine
  have hr := fun ty => Lib.run_append_nil_zeros (P := Tryz.prog) w 59 3 ty 75 i0 _ .i64 .i64 Tryz.underlying59 Tryz.underlying3 hi0 hz0 n h0 (by omega) (by omega) (by rw [hz2]; omega)
  have hGe := grownCap_ge w n 0 75
  have hGm := grownCap_le_maxLen w n 0 75 (by unfold maxLen; omega)
  generalize grownCap w n 0 75 = G at *
  have hO := World.ownsRow_made (base := w.heap.size) (e := 75) (size := 2) w.drew (Builtin.zeroCells (Value.agg #[.string ByteArray.empty, .slice none 0 0]).cells n ++ Builtin.zeroCells (Value.agg #[.string ByteArray.empty, .slice none 0 0]).cells (G - n)) G (Nat.le_refl _) hGm (by
    rw [Array.size_append, size_zeroCells, size_zeroCells]
    simp [Value.cells]
    omega)
  have hB := below_new w.drew (.cells (Builtin.zeroCells (Value.agg #[.string ByteArray.empty, .slice none 0 0]).cells n ++ Builtin.zeroCells (Value.agg #[.string ByteArray.empty, .slice none 0 0]).cells (G - n)) 75)
  have HO := Lib.hid hO
  have HB : Hid (Below w.heap.size w (w.drew.alloc (.cells (Builtin.zeroCells (Value.agg #[.string ByteArray.empty, .slice none 0 0]).cells n ++ Builtin.zeroCells (Value.agg #[.string ByteArray.empty, .slice none 0 0]).cells (G - n)) 75))) := Lib.hid ((Below.refl _ w).drew.trans hB)
  unfold maxLen at hGm
  clear hO hB
  generalize w.drew.alloc (.cells (Builtin.zeroCells (Value.agg #[.string ByteArray.empty, .slice none 0 0]).cells n ++ Builtin.zeroCells (Value.agg #[.string ByteArray.empty, .slice none 0 0]).cells (G - n)) 75) = W at *
  have h1 : ¬ ((n : Int) < 0) := by omega
  have h4 : (n : Int) > 0 := by omega
  have h5 : (0 : Int) < n := by omega
  go_enter Tryz.func43, Tryz.ntmps43
  go_wp2_with (at_builtin; refine Lib.wpList_append_run _ rfl _ _ _ _ rfl _ _ rfl rfl _ _ (hr _) ?_)
  all_goals (go_ret; exact ⟨_, rfl, HO.out, HB.out⟩)

abbrev Part := Option Addr × Nat × List Ln
def allL (ps : List Part) : List Ln := (ps.map (fun x => x.2.2)).flatten
theorem allL_append (ps qs : List Part) : allL (ps ++ qs) = allL ps ++ allL qs := by simp [allL]
theorem allL_step {ps : List Part} {k : Nat} {x : Part} (h : ps[k]? = some x) : allL (ps.take (k + 1)) = allL (ps.take k) ++ x.2.2 := by
  rw [take_one h, allL_append]
  simp [allL]
theorem allL_take_le (ps : List Part) (k : Nat) : (allL (ps.take k)).length ≤ (allL ps).length := by
  conv => rhs; rw [← List.take_append_drop k ps, allL_append, List.length_append]
  omega
/-- The slices at b. -/
def HoldsP (w : World) (b : Nat) (ps : List Part) : Prop := ∀ (k : Nat) (x : Part), ps[k]? = some x → w.cell? ⟨b, k, none⟩ = some (.slice x.1 x.2.2.length x.2.1) ∧ HoldsL w x.1 x.2.2
theorem HoldsP.below {w w' : World} {b : Nat} {ps : List Part} (h : HoldsP w b ps) (hb : Below w.heap.size w w') : HoldsP w' b ps := fun k x hx => by
  obtain ⟨h1, h2⟩ := h k x hx
  exact ⟨(hb.cell (p := ⟨b, k, none⟩) (cell_lt h1)).trans h1, h2.below hb⟩

set_option maxRecDepth 100000 in
set_option maxHeartbeats 8000000 in
theorem Concat_any (b c : Nat) (ps : List Part) (w : World) (hp : ps.length ≤ 100) (h0 : 0 < (allL ps).length) (hn : (allL ps).length ≤ 10000) (hH : HoldsP w b ps) :
    Calls Tryz.prog 31 #[.slice (some ⟨b, 0, none⟩) ps.length c] w fun e w' => ∃ v, e = .returned v ∧ w'.ownsRow w.heap.size 75 2 v (allL ps).length (lnCells (allL ps)) ∧ Below w.heap.size w w' := by
  obtain ⟨i0, hi0, hz0, hz1, hz2⟩ := info_parts infoLine
  go_enter Tryz.func31, Tryz.ntmps31
  go_wp2_with fail
  go_loopw [3, 11] (fun s i wr => ∃ (k : Nat), k ≤ ps.length ∧ i = .int .i64 k ∧ s = .int .i64 (allL (ps.take k)).length ∧ w = wr) (fun _ i _ => ps.length - (intOf i).toNat)
  case atStart => exact ⟨0, by omega, rfl, by simp [allL], rfl⟩
  case round =>
    obtain ⟨k, hk, rfl, rfl, rfl⟩ := hrel
    by_cases hlt : k < ps.length
    · have hx := List.getElem?_eq_getElem hlt
      obtain ⟨c1, hL⟩ := hH k ps[k] hx
      have hst := congrArg List.length (allL_step hx)
      have hle := allL_take_le ps (k + 1)
      rw [List.length_append] at hst
      have hi1 : ((k : Int) < (ps.length : Int)) := by omega
      generalize ps[k] = x at *
      have HH := Lib.hid hH
      have HX := Lib.hid hx
      have HL := Lib.hid hL
      have HS : Hid (((allL (ps.take k)).length : Int) + x.2.2.length = ((allL (ps.take (k + 1))).length : Int)) := Lib.hid (by omega)
      have hb1 : (allL (ps.take k)).length + x.2.2.length ≤ 10000 := by omega
      have q0 : ¬ (((allL (ps.take k)).length : Int) + x.2.2.length < 0) := by omega
      clear hx hL hH hst hle
      obtain ⟨m2, hm2⟩ : ∃ m2, m2 = (allL (ps.take (k + 1))).length := ⟨_, rfl⟩
      rw [← hm2] at HS
      have HM := Lib.hid hm2
      clear hm2
      generalize (allL (ps.take k)).length = m1 at *
      go_wp2_with fail
      go_roundw
      case rel => exact ⟨k + 1, by omega, by go_num, by rw [← HM.out, ← HS.out], trivial⟩
      case measure => simp [intOf]; omega
    · obtain rfl : k = ps.length := by omega
      have ht : ps.take ps.length = ps := List.take_length
      rw [ht]
      have HG := Lib.hid (Grow_nil (allL ps).length w h0 hn)
      have HH := Lib.hid hH
      clear ht hlt hk hH
      go_wp2_with fail
      refine HG.out.mono ?_
      rintro e w1 ⟨v1, rfl, ho1, hb1⟩
      have HO1 := Lib.hid ho1
      have HB1 := Lib.hid hb1
      clear HG ho1 hb1
      go_wp2_with fail
      go_loopw [6, 27] (fun v i wx => ∃ (k : Nat), k ≤ ps.length ∧ i = .int .i64 k ∧ wx.ownsRow w.heap.size 75 2 v (allL (ps.take k)).length (lnCells (allL (ps.take k))) ∧ Below w.heap.size w wx) (fun _ i _ => ps.length - (intOf i).toNat)
      case atStart => exact ⟨0, by omega, rfl, by simpa [allL, lnCells] using HO1.out, HB1.out⟩
      case round =>
        obtain ⟨k, hk, rfl, hown, hlow⟩ := hrel
        by_cases hlt : k < ps.length
        · have hx := List.getElem?_eq_getElem hlt
          obtain ⟨c1, hL⟩ := (HH.out.below hlow) k ps[k] hx
          have hst := allL_step hx
          have hle := allL_take_le ps (k + 1)
          have hlen := congrArg List.length hst
          rw [List.length_append] at hlen
          have hi1 : ((k : Int) < (ps.length : Int)) := by omega
          generalize ps[k] = x at *
          have HX := Lib.hid hx
          have HT := Lib.hid hst
          have HN := Lib.hid hlen
          have hsw := hlow.size
          have hb1 : (allL (ps.take k)).length ≤ 10000 ∧ x.2.2.length ≤ 10000 := by omega
          have hob := ownBlock_ge hown
          have HO := Lib.hid hown
          have HLL := Lib.hid hL
          clear hx hst hle hlen hown hL
          go_wp2_with (at_builtin; go_must (refine wpList_append_lns rfl _ _ rfl rfl i0 _ hi0 hz0 hz1 hz2 rfl w.heap.size _ _ _ rfl HO.out x.1 x.2.1 x.2.2 rfl HLL.out hb1.1 hb1.2 hsw ?_); go_must (intro v4 w4 hown4 hg4))
          go_roundw
          case rel =>
            refine ⟨k + 1, by omega, by go_num, ?_, hlow.grown hg4 hsw hob⟩
            rw [HT.out, List.length_append, lnCells_append]
            exact hown4
          case measure => simp [intOf]; omega
        · obtain rfl : k = ps.length := by omega
          have ht : ps.take ps.length = ps := List.take_length
          rw [ht] at hown
          have HO := Lib.hid hown
          have HL := Lib.hid hlow
          clear hown hlow ht
          go_wp2_with fail
          go_ret
          exact ⟨_, rfl, HO.out, HL.out⟩
end Go.Proofs.YtflpihedhccdfaaGreatDoor
