/-
  The law FrameSizes: true.
-/
import Derived.Test.YtjlehlkkgkplmaaDoorProg
import Derived.Test.YtjlehlkkgkplmaaDoorReg
import Derived.WalkKit
import Derived.WalkSpells
import Derived.WalkLawsBesides
import Derived.Lib.Hide
import Derived.Lib.MinMax
import Derived.Deep.QuietTactic
import Derived.BigQuiet
import Derived.OwnWalk
import Derived.Deep.AppendLies
import Derived.KernelRfl
import Derived.Test.YtjlehlkkgkplmaaDoorFrSh
set_option linter.unusedSimpArgs false
set_option linter.unusedVariables false
namespace Go.Proofs.YtjlehlkkgkplmaaDoor
open Go Go.RowKit

theorem putB_size {b : ByteArray} (h : ¬ 9000 < b.size) : (putB b).1.size = 20 + (digs b.size).length + b.size ∧ (putB b).2 = 0 := by
  unfold putB
  rw [if_neg h]
  refine ⟨?_, rfl⟩
  show (putL b.data.toList).length = _
  have hz : b.data.toList.length = b.size := rfl
  obtain ⟨h1, _⟩ := head_len (n := b.size) (by omega)
  unfold putL
  rw [hz, List.length_append, List.length_append, h1, hz]
  simp
  omega
set_option maxRecDepth 100000 in
set_option maxHeartbeats 8000000 in
theorem frameSizes_any (s : ByteArray) (a : Addr) (w : World) (hs : s.size ≤ maxLen) (hL : LaidF a w) :
    Calls Tryd.prog 8 #[.string s] w fun e w' => e = .returned (.bool true) ∧ Below w.heap.size w w' := by
  have HS := Lib.hid (shown_any a w hL)
  have HC := Lib.hid (fun u => Cut_any s u hs)
  have hz := cut9010_size s
  generalize cut9010 s = b at *
  have HP := Lib.hid (fun W (hb : Below w.heap.size w W) => Put_any b a W (by omega) (hL.below hb))
  clear hL hs
  by_cases hbig : 9000 < b.size
  · have q : (9000 : Int) < (b.size : Int) := by omega
    have hp : putB b = (⟨#[]⟩, 160) := if_pos hbig
    rw [hp] at HP
    clear hp hbig
    go_enter Tryd.func8, Tryd.ntmps8
    go_wp2_with fail
    refine HS.out.mono ?_
    rintro e w1 ⟨rfl, hb1⟩
    have B1 := Lib.hid hb1
    clear hb1
    go_wp2_with fail
    refine (HC.out _).mono ?_
    rintro e w2 ⟨rfl, rfl⟩
    have HPw := Lib.hid (HP.out _ B1.out)
    clear HP HC HS
    go_wp2_with fail
    refine HPw.out.mono ?_
    rintro e w3 ⟨rfl, hb3⟩
    have B3 := Lib.hid (B1.out.trans (hb3.mono B1.out.size))
    clear hb3 HPw
    go_wp2_with fail
    go_ret
    exact ⟨rfl, B3.out⟩
  · have q : ¬ (9000 : Int) < (b.size : Int) := by omega
    have q2 : (b.size : Int) ≤ 9000 := by omega
    obtain ⟨hp1, hp2⟩ := putB_size hbig
    rw [hp2] at HP
    have hd := numOK_len (n := b.size) (by omega)
    have HD := Lib.hid hp1
    have HDl := Lib.hid hd
    generalize (putB b).1 = p at *
    clear hp1 hp2 hbig hd
    go_enter Tryd.func8, Tryd.ntmps8
    go_wp2_with fail
    refine HS.out.mono ?_
    rintro e w1 ⟨rfl, hb1⟩
    have B1 := Lib.hid hb1
    clear hb1
    go_wp2_with fail
    refine (HC.out _).mono ?_
    rintro e w2 ⟨rfl, rfl⟩
    have HPw := Lib.hid (HP.out _ B1.out)
    clear HP HC HS
    go_wp2_with fail
    refine HPw.out.mono ?_
    rintro e w3 ⟨rfl, hb3⟩
    have B3 := Lib.hid (B1.out.trans (hb3.mono B1.out.size))
    clear hb3 HPw
    go_wp2_with fail
    go_loopw [6, 7] (fun n i wr => ∃ (m k : Nat), n = .int .i64 m ∧ i = .int .i64 k ∧ k ≤ 9000 ∧ m ≤ 100 ∧ Hid (m + (digs k).length = 21 + (digs b.size).length) ∧ w3 = wr) (fun _ i _ => (intOf i).toNat)
    case atStart => exact ⟨21, b.size, rfl, rfl, by omega, by omega, Lib.hid rfl, rfl⟩
    case round =>
      obtain ⟨m, k, rfl, rfl, hk, hm, HM, rfl⟩ := hrel
      have i0 : (0 : Int) ≤ (k : Int) := by omega
      by_cases h10 : 10 ≤ k
      · have i1 : (10 : Int) ≤ (k : Int) := by omega
        have HM2 : Hid (m + 1 + (digs (k / 10)).length = 21 + (digs b.size).length) := Lib.hid (by
          have h := HM.out
          rw [digs_high (by omega), digs_low (Nat.mod_lt k (by omega)), List.length_append, List.length_singleton] at h
          omega)
        have hm2 : m + 1 ≤ 100 := by have h1 := HM2.out; have h2 := HDl.out; omega
        go_wp2_with fail
        go_roundw
        case rel => exact ⟨m + 1, k / 10, by go_num, by rw [Int.natCast_ediv]; rfl, by omega, hm2, HM2, trivial⟩
        case measure => simp [intOf]; omega
      · have i1 : ¬ (10 : Int) ≤ (k : Int) := by omega
        have hE : (p.size : Int) = (m : Int) + (b.size : Int) := by
          have h := HM.out
          rw [digs_low (by omega), List.length_singleton] at h
          have := HD.out
          omega
        have q3 : ((p.size : Int) == (m : Int) + (b.size : Int)) = true := by rw [hE]; simp
        clear hE
        go_wp2_with fail
        go_ret
        exact ⟨rfl, B3.out⟩
end Go.Proofs.YtjlehlkkgkplmaaDoor
