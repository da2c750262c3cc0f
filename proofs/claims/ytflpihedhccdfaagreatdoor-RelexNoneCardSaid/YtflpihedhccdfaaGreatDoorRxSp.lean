/-
  Walks of strings.Count, strings.Index, strings.Split at one byte, "\n". Shape: the shelf's own walks of them, turned to this program.
-/
import Derived.Test.YtflpihedhccdfaaGreatDoorProg
import Derived.Test.YtflpihedhccdfaaGreatDoorReg
import Derived.WalkKit
import Derived.WalkSpells
import Derived.WalkLawsBesides
import Derived.Lib.Hide
import Derived.Lib.MinMax
import Derived.Deep.QuietTactic
import Derived.BigQuiet
import Derived.OwnWalk
import Derived.Deep.AppendLies
import Derived.KernelRfl
import Derived.Deep.OwnRows
import Derived.Deep.LoopGhost
import Derived.Lib.Bytealg
import Derived.Lib.CutLaws
import Derived.Laws.Strings3
import Derived.Test.YtflpihedhccdfaaGreatDoorRxL
set_option linter.unusedSimpArgs false
set_option linter.unusedVariables false
namespace Go.Proofs.YtflpihedhccdfaaGreatDoor
open Go.RowKit

theorem infoStr : (Tryz.prog.info? 9).map (fun i => (i.zero, i.size, i.bytes)) = some (some (.string ByteArray.empty), 1, 16) := by kernel_rfl

set_option maxRecDepth 100000 in
theorem indexByte_any (s : ByteArray) (c : Int) (w : World) :
    Calls Tryz.prog 87 #[.string s, .int .u8 c] w fun e w' => e = .returned (.int .i64 (Lib.indexByte s.data.toList c.toNat.toUInt8)) ∧ w' = w := by
  go_enter Tryz.func87, Tryz.ntmps87
  go_wp2_with fail
  rw [run_callFunc_extern Tryz.func102 (by kernel_rfl) (by kernel_rfl) (by kernel_rfl) (e := Extern.BytealgIndexByte.indexByte) (by kernel_rfl), Lib.run_indexByteString]
  simp only [Result.andThen]
  rw [Oper.upon_value]
  go_wp2
  go_ret
  exact ⟨rfl, rfl⟩

set_option maxRecDepth 100000 in
theorem sliteIndex_any (s : ByteArray) (w : World) :
    Calls Tryz.prog 74 #[.string s, .string nlB] w fun e w' => e = .returned (.int .i64 (Lib.indexB s nlB)) ∧ w' = w := by
  have hI : Lib.indexB s nlB = Lib.indexByte s.data.toList 10 := Lib.index_one _ _
  have n0 : ((nlB.size : Int) == 0) = false := rfl
  have n1 : ((nlB.size : Int) == 1) = true := rfl
  by_cases hs : nlB = s
  · have hb := bytes_beq_yes hs
    have h0 : Lib.indexB s nlB = 0 := by subst hs; rfl
    rw [h0]
    clear hI h0 hs
    go_enter Tryz.func74, Tryz.ntmps74
    go_wp2
    go_ret
    exact ⟨rfl, rfl⟩
  · have hb := bytes_beq_no hs
    rw [hI]
    clear hI hs
    go_enter Tryz.func74, Tryz.ntmps74
    go_wp2_with fail
    refine (indexByte_any s ((nlB.data[0]'(by decide)).toNat : Int) w).mono ?_
    rintro e w' ⟨rfl, rfl⟩
    go_wp2
    go_ret
    exact ⟨rfl, rfl⟩

set_option maxRecDepth 100000 in
theorem index_any (s : ByteArray) (w : World) :
    Calls Tryz.prog 60 #[.string s, .string nlB] w fun e w' => e = .returned (.int .i64 (Lib.indexB s nlB)) ∧ w' = w := by
  go_enter Tryz.func60, Tryz.ntmps60
  go_wp2_with fail
  refine (sliteIndex_any s w).mono ?_
  rintro e w' ⟨rfl, rfl⟩
  go_wp2
  go_ret
  exact ⟨rfl, rfl⟩

set_option maxRecDepth 100000 in
theorem count_any (s : ByteArray) (w : World) :
    Calls Tryz.prog 59 #[.string s, .string nlB] w fun e w' => e = .returned (.int .i64 (Lib.countB s nlB)) ∧ w' = w := by
  have hC : (Lib.countByte s.data.toList 10 : Int) = Lib.countB s nlB := by
    show _ = ((Lib.count s.data.toList [10] : Nat) : Int)
    rw [Lib.count_one]
    rfl
  rw [← hC]
  clear hC
  go_enter Tryz.func59, Tryz.ntmps59
  go_wp2_with fail
  rw [run_callFunc_extern Tryz.func73 (by kernel_rfl) (by kernel_rfl) (by kernel_rfl) (e := Extern.BytealgCount.count) (by kernel_rfl), Lib.run_countString]
  simp only [Result.andThen]
  rw [Oper.upon_value]
  go_wp2
  go_ret
  exact ⟨rfl, rfl⟩

set_option maxHeartbeats 4000000 in
set_option maxRecDepth 1000000 in
theorem genSplit_any (s : ByteArray) (w : World) (hs : s.size < 4294967281) :
    Calls Tryz.prog 40 #[.string s, .string nlB, .int .i64 0, .int .i64 (-1)] w fun e w' =>
      e = .returned (.slice (some ⟨w.heap.size, 0, none⟩) (piecesB s).length (piecesB s).length) ∧ w' = w.alloc (.cells ((piecesB s).map Value.string).toArray 9) := by
  have hC := count_any s w
  rw [← splitB_pieces]
  have hle := Lib.countB_le nlB (by decide) s.size s (Nat.le_refl _)
  obtain ⟨N, hN⟩ : ∃ N : Nat, N = Lib.countB s nlB + 1 := ⟨_, rfl⟩
  have hlen0 := Lib.splitB_all nlB (by decide) 0 _ s rfl
  have hlen : (Lib.splitB nlB 0 (N - 1) s).length = N := by rw [hN, Nat.add_sub_cancel]; exact hlen0
  have e2 : Lib.cellsOf (Lib.splitB nlB 0 (N - 1) s) N = ((Lib.splitB nlB 0 (Lib.countB s nlB) s).map Value.string).toArray := by
    rw [hN, Nat.add_sub_cancel, ← hlen0]; exact Lib.cellsOf_full _
  have e3 : (Lib.splitB nlB 0 (Lib.countB s nlB) s).length = N := by rw [hlen0, hN]
  rw [← e2, e3]
  have hC2 : ((Lib.countB s nlB : Nat) : Int) = (N : Int) - 1 := by omega
  rw [hC2] at hC
  have hN1 : 1 ≤ N := by omega
  have hNs : N ≤ s.size + 1 := by omega
  clear e2 e3 hC2 hlen0 hN hle
  have hmk := run_make_row' (P := Tryz.prog) 70 9 (.string ByteArray.empty) 16 (by kernel_rfl) infoStr rfl .i64 .i64 N (by omega) (by omega)
  have hmin : min (N : Int) ((s.size : Int) + 1) = (N : Int) := by omega
  have hse : nlB.toList.isEmpty = false := by rw [Lib.toList_data]; rfl
  have Hlen := Lib.hid hlen
  clear hlen
  go_enter Tryz.func40, Tryz.ntmps40
  go_wp2_with fail
  refine hC.mono ?_
  rintro e w' ⟨rfl, rfl⟩
  clear hC
  go_wp2
  clear hmk hmin
  go_loopg [0, 10] (N - 1) (fun g s0 s10 wr => ∃ (done : List ByteArray) (rest : ByteArray), s0 = .string rest ∧ s10 = .int .i64 done.length ∧ done.length ≤ N - 1 ∧ g = N - 1 - done.length ∧ rest.size ≤ s.size ∧
      wr = w'.alloc (.cells (Lib.cellsOf done N) 9) ∧ Hid (done ++ Lib.splitB nlB 0 (N - 1 - done.length) rest = Lib.splitB nlB 0 (N - 1) s))
  case atStart => exact ⟨[], s, rfl, rfl, Nat.zero_le _, rfl, Nat.le_refl _, by rw [Lib.cellsOf_nil], Lib.hid rfl⟩
  case round =>
    obtain ⟨done, rest, rfl, rfl, hd, rfl, hrs, rfl, HS⟩ := hrel
    have hnext : (Lib.cellsOf done N)[done.length]? = some (.string ByteArray.empty) := Lib.cellsOf_next (by omega)
    have fin : Lib.splitB nlB 0 (N - 1 - done.length) rest = [rest] → N = done.length + 1 ∧ (Lib.cellsOf done N).setIfInBounds done.length (.string rest) = Lib.cellsOf (Lib.splitB nlB 0 (N - 1) s) N := fun h => by
      have e := HS.out
      rw [h] at e
      have e5 := Hlen.out
      rw [← e] at e5 ⊢
      refine ⟨by rw [← e5]; simp, ?_⟩
      rw [Lib.cellsOf_set (by rw [← e5]; simp) rest]
    by_cases hlt : done.length < N - 1
    · have hltz : ((done.length : Nat) : Int) < (N : Int) - 1 := by omega
      rcases Lib.indexB_cases rest nlB with hix | ⟨i, hix, hroom⟩
      · have H := fun W => index_any rest W
        rw [hix] at H
        have FIN := Lib.hid (fin (Lib.splitB_miss nlB 0 _ rest hix))
        clear fin hix
        go_wp2_with fail
        refine (H _).mono ?_
        rintro e W ⟨rfl, rfl⟩
        clear H
        go_wp2
        go_ret
        obtain ⟨f1, f2⟩ := FIN.out
        rw [← f2]
        exact ⟨by first | (congr 2 <;> omega) | (simp; omega), rfl⟩
      · have H := fun W => index_any rest W
        rw [hix] at H
        have hz : nlB.size = 1 := rfl
        rw [hz] at hroom
        have c0 : ¬ ((i : Int) < 0) := by omega
        have c2 : (i : Int) ≤ ↑rest.size := by omega
        have c3 : (0 : Int) ≤ ↑i + 1 := by omega
        have c4 : (↑i + 1 : Int) ≤ ↑rest.size := by omega
        have HIX := Lib.hid hix
        clear hix
        go_wp2_with fail
        refine (H _).mono ?_
        rintro e W ⟨rfl, rfl⟩
        clear H
        go_wp2
        go_roundg (N - 1 - (done.length + 1))
        case measure => omega
        case rel =>
          refine ⟨done ++ [rest.extract 0 (i + 0)], rest.extract (i + nlB.size) rest.size, rfl, by simp, by simp; omega, by simp, by rw [ByteArray.size_extract]; omega, by rw [← Lib.cellsOf_set (by omega)]; rfl, Lib.hid ?_⟩
          rw [← HS.out, show N - 1 - done.length = (N - 1 - (done.length + 1)) + 1 by omega, Lib.splitB_hit nlB 0 _ rest i HIX.out]
          simp
    · have hltz : ¬ (((done.length : Nat) : Int) < (N : Int) - 1) := by omega
      have FIN := Lib.hid (fin (by rw [show N - 1 - done.length = 0 by omega]; rfl))
      clear fin
      go_wp2
      go_ret
      obtain ⟨f1, f2⟩ := FIN.out
      rw [← f2]
      exact ⟨by first | (congr 2 <;> omega) | (simp; omega), rfl⟩

set_option maxRecDepth 100000 in
theorem split_any (s : ByteArray) (w : World) (hs : s.size < 4294967281) :
    Calls Tryz.prog 28 #[.string s, .string nlB] w fun e w' =>
      e = .returned (.slice (some ⟨w.heap.size, 0, none⟩) (piecesB s).length (piecesB s).length) ∧ w' = w.alloc (.cells ((piecesB s).map Value.string).toArray 9) := by
  go_enter Tryz.func28, Tryz.ntmps28
  go_wp2_with fail
  refine (genSplit_any s w hs).mono ?_
  rintro e w' ⟨rfl, rfl⟩
  go_wp2
  go_ret
  exact ⟨rfl, rfl⟩
end Go.Proofs.YtflpihedhccdfaaGreatDoor
