/-
  The law LexAgain: true.
-/
import Derived.Test.YteojnejomgomjaaDoorProg
import Derived.Test.YteojnejomgomjaaDoorReg
import Derived.WalkKit
import Derived.WalkSpells
import Derived.WalkLawsBesides
import Derived.Lib.Hide
import Derived.Lib.MinMax
import Derived.Deep.QuietTactic
import Derived.BigQuiet
import Derived.OwnWalk
import Derived.Deep.AppendLies
import Derived.KernelRfl
import Derived.Test.YteojnejomgomjaaDoorLxLo
set_option linter.unusedSimpArgs false
set_option linter.unusedVariables false
namespace Go.Proofs.YteojnejomgomjaaDoor
open Go.RowKit Go.Maps

theorem line_again {s : ByteArray} : ∀ x ∈ dLine s, 0 < x.text.size ∧ x.text.size ≤ s.size ∧ (x.kind ≠ 10 → dLine x.text = [x]) := by
  intro x hx
  rcases (line_whole s.size s (Nat.le_refl _)).2 x hx with ⟨h1, h2, h3, h4, h5⟩ | ⟨h1, h2, h3⟩
  · exact ⟨h1, h2, fun _ => line_first_only h5 h1⟩
  · exact ⟨h1, h2, fun h => absurd h3 h⟩

set_option maxRecDepth 100000 in
set_option maxHeartbeats 8000000 in
theorem lexAgain_any (s0 : ByteArray) (w : World) (hs : s0.size ≤ maxLen) (hT : Tabs w) :
    Calls Tryd.prog 3 #[.string s0] w fun e w' => e = .returned (.bool true) ∧ Below w.heap.size w w' := by
  have HS := Lib.hid (shown_any w hT)
  have HC := Lib.hid (fun u => cutC s0 u hs)
  have hcl := cut_len s0
  have HT := Lib.hid hT
  clear hs hT
  generalize cut300 s0 = s at *
  have HLn := Lib.hid (fun W h => LineC s W (by omega) h)
  have hll := dLine_len s
  have HK : Hid (∀ x ∈ dLine s, 0 < x.text.size ∧ x.text.size ≤ s.size ∧ (x.kind ≠ 10 → dLine x.text = [x])) := Lib.hid line_again
  generalize dLine s = l at *
  go_enter Tryd.func3, Tryd.ntmps3
  go_wp2_with fail
  refine HS.out.mono ?_
  rintro e w1 ⟨rfl, hb1⟩
  have hT1 := HT.out.below hb1
  go_wp2_with fail
  refine (HC.out _).mono ?_
  rintro e w2 ⟨rfl, rfl⟩
  have HLw := Lib.hid (HLn.out _ hT1)
  go_wp2_with fail
  refine HLw.out.mono ?_
  rintro e w3 ⟨A3, c3, rfl, hH3, q3, hb3⟩
  have HT3 := Lib.hid (hT1.below hb3)
  have B3 := Lib.hid (hb1.trans (hb3.mono hb1.size))
  have HH3 := Lib.hid hH3
  clear HS HC HT HLn HLw hT1 hb1 hb3 hH3
  obtain ⟨wz, hwz⟩ : ∃ wz : World, wz = w3 := ⟨_, rfl⟩
  go_wp2_with fail
  go_loopw [5] (fun i wr => ∃ (k : Nat), i = .int .i64 k ∧ k ≤ l.length ∧ Hid (Below w3.heap.size w3 wr)) (fun i _ => l.length - (intOf i).toNat)
  case atStart => exact ⟨0, rfl, Nat.zero_le _, Lib.hid (Below.refl _ _)⟩
  case round =>
    obtain ⟨k, rfl, hk, HB⟩ := hrel
    by_cases hlt : k < l.length
    · have ga := List.getElem?_eq_getElem (l := l) (i := k) hlt
      obtain ⟨k1, k2, k3⟩ := HK.out _ (List.mem_of_getElem? ga)
      generalize l[k]'hlt = x at *
      have HHr := Lib.hid (HH3.out.below HB.out)
      obtain ⟨b, off, rfl, d0, d1, d2⟩ := HHr.out k x ga
      have HK3 := Lib.hid k3
      have HLr := Lib.hid (LineC x.text wr (by omega) (HT3.out.below HB.out))
      have HG := Lib.hid ga
      clear ga k3
      go_wp2_with fail
      refine HLr.out.mono ?_
      rintro e w4 ⟨A4, c4, rfl, hH4, q4, hb4⟩
      obtain ⟨b', off', e', f0, f1, f2⟩ := (HHr.out.below hb4) k x HG.out
      cases e'
      have HB4 := Lib.hid (HB.out.trans (hb4.mono HB.out.size))
      have i0 : (0 : Int) ≤ (k : Int) := by omega
      have i1 : (k : Int) < (l.length : Int) := by omega
      clear HLr hb4 d0 d1 d2
      by_cases h10 : x.kind = 10
      · have q1 : (x.kind != 10) = false := by simp [h10]
        clear h10 hH4 q4
        generalize dLine x.text = m at *
        go_wp2_with fail
        go_quiet (fail)
        go_wp2_with fail
        go_roundw
        case rel => exact ⟨k + 1, by go_num, by omega, Lib.hid (below_drewN HB4.out _)⟩
        case measure => simp [intOf]; omega
      · have q1 : (x.kind != 10) = true := by simp [h10]
        have hm := HK3.out h10
        rw [hm] at hH4 q4
        have HMl : Hid ((dLine x.text).length = 1) := Lib.hid (by rw [hm]; rfl)
        obtain ⟨b4, off4, rfl, g0, g1, g2⟩ := hH4 0 x rfl
        have g0' : w4.cell? ⟨b4, off4, none⟩ = some (.int .i64 x.kind) := by simpa using g0
        have g1' : w4.cell? ⟨b4, off4 + 1, none⟩ = some (.string x.text) := by simpa using g1
        have g2' : w4.cell? ⟨b4, off4 + 2, none⟩ = some (.string x.glyph) := by simpa using g2
        have e0 : (x.kind == x.kind) = true := by simp
        have e1 := bytes_beq_yes (rfl : x.text = x.text)
        have e2 := bytes_beq_yes (rfl : x.glyph = x.glyph)
        have qc : 1 ≤ c4 := by simpa using q4
        rw [HMl.out]
        clear hm hH4 q4 g0 g1 g2 h10 HK3
        go_wp2_with fail
        go_quiet (fail)
        go_wp2_with fail
        go_roundw
        case rel => exact ⟨k + 1, by go_num, by omega, Lib.hid (below_drewN HB4.out _)⟩
        case measure => simp [intOf]; omega
    · obtain rfl : k = l.length := by omega
      go_wp2_with fail
      go_ret
      exact ⟨rfl, B3.out.trans (HB.out.mono B3.out.size)⟩
end Go.Proofs.YteojnejomgomjaaDoor
