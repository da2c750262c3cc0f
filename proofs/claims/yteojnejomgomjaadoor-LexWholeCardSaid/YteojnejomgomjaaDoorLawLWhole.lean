/-
  The law LexWhole: true.
-/
import Derived.Test.YteojnejomgomjaaDoorProg
import Derived.Test.YteojnejomgomjaaDoorReg
import Derived.WalkKit
import Derived.WalkSpells
import Derived.WalkLawsBesides
import Derived.Lib.Hide
import Derived.Lib.MinMax
import Derived.Deep.QuietTactic
import Derived.BigQuiet
import Derived.OwnWalk
import Derived.Deep.AppendLies
import Derived.KernelRfl
import Derived.Test.YteojnejomgomjaaDoorLxLo
set_option linter.unusedSimpArgs false
set_option linter.unusedVariables false
namespace Go.Proofs.YteojnejomgomjaaDoor
open Go.RowKit Go.Maps

theorem line_toks {s : ByteArray} : ∀ x ∈ dLine s, 0 < x.text.size ∧ x.text.size ≤ s.size ∧ 1 ≤ x.kind ∧ x.kind ≤ 10 := by
  intro x hx
  rcases (line_whole s.size s (Nat.le_refl _)).2 x hx with ⟨h1, h2, h3, h4, _⟩ | ⟨h1, h2, h3⟩
  · exact ⟨h1, h2, h3, h4⟩
  · exact ⟨h1, h2, by omega, by omega⟩

set_option maxRecDepth 100000 in
set_option maxHeartbeats 8000000 in
theorem lexWhole_any (s0 : ByteArray) (w : World) (hs : s0.size ≤ maxLen) (hT : Tabs w) :
    Calls Tryd.prog 7 #[.string s0] w fun e w' => e = .returned (.bool true) ∧ Below w.heap.size w w' := by
  have HS := Lib.hid (shown_any w hT)
  have HC := Lib.hid (fun u => cutC s0 u hs)
  have hcl := cut_len s0
  have HT := Lib.hid hT
  clear hs hT
  generalize cut300 s0 = s at *
  have HLn := Lib.hid (fun W h => LineC s W (by omega) h)
  have hll := dLine_len s
  have HK : Hid (∀ x ∈ dLine s, 0 < x.text.size ∧ x.text.size ≤ s.size ∧ 1 ≤ x.kind ∧ x.kind ≤ 10) := Lib.hid line_toks
  have HX : Hid (textOf (dLine s) = s) := Lib.hid (line_whole s.size s (Nat.le_refl _)).1
  generalize dLine s = l at *
  go_enter Tryd.func7, Tryd.ntmps7
  go_wp2_with fail
  refine HS.out.mono ?_
  rintro e w1 ⟨rfl, hb1⟩
  have hT1 := HT.out.below hb1
  go_wp2_with fail
  refine (HC.out _).mono ?_
  rintro e w2 ⟨rfl, rfl⟩
  have HLw := Lib.hid (HLn.out _ hT1)
  go_wp2_with fail
  refine HLw.out.mono ?_
  rintro e w3 ⟨A3, c3, rfl, hH3, q3, hb3⟩
  have B3 := Lib.hid (hb1.trans (hb3.mono hb1.size))
  have HH3 := Lib.hid hH3
  clear HS HC HT HLn HLw hT1 hb1 hb3 hH3
  go_wp2_with fail
  go_loop [5] (fun i => ∃ (k : Nat), i = .int .i64 k ∧ k ≤ l.length) (fun i => l.length - (intOf i).toNat)
  case atStart => exact ⟨0, rfl, Nat.zero_le _⟩
  case round =>
    obtain ⟨k, rfl, hk⟩ := hrel
    by_cases hlt : k < l.length
    · have ga := List.getElem?_eq_getElem (l := l) (i := k) hlt
      obtain ⟨k1, _, k3, k4⟩ := HK.out _ (List.mem_of_getElem? ga)
      generalize l[k]'hlt = x at *
      obtain ⟨b, off, rfl, d0, d1, d2⟩ := HH3.out k x ga
      have q1 := empty_not (u := x.text) k1
      have q2 : decide (x.kind < 1) = false := by simp; omega
      have q3 : decide (10 < x.kind) = false := by simp; omega
      clear ga
      go_wp2_with fail
      go_round
      case rel => exact ⟨k + 1, by go_num, by omega⟩
      case measure => simp [intOf]; omega
    · obtain rfl : k = l.length := by omega
      have HTx := Text_any l A3 c3 w3 (by omega) (by rw [HX.out]; omega) HH3.out
      rw [HX.out] at HTx
      have HTx := Lib.hid HTx
      have q := bytes_beq_yes (rfl : s = s)
      go_wp2_with fail
      refine HTx.out.mono ?_
      rintro e w4 ⟨rfl, hb4⟩
      have B4 := Lib.hid (B3.out.trans (hb4.mono B3.out.size))
      go_wp2_with fail
      go_ret
      exact ⟨rfl, B4.out⟩
end Go.Proofs.YteojnejomgomjaaDoor
