/-
  The law LexNames: true.
-/
import Derived.Test.YteojnejomgomjaaDoorProg
import Derived.Test.YteojnejomgomjaaDoorReg
import Derived.WalkKit
import Derived.WalkSpells
import Derived.WalkLawsBesides
import Derived.Lib.Hide
import Derived.Lib.MinMax
import Derived.Deep.QuietTactic
import Derived.BigQuiet
import Derived.OwnWalk
import Derived.Deep.AppendLies
import Derived.KernelRfl
import Derived.Test.YteojnejomgomjaaDoorLxLo
set_option linter.unusedSimpArgs false
set_option linter.unusedVariables false
namespace Go.Proofs.YteojnejomgomjaaDoor
open Go.RowKit Go.Maps

theorem name_line {s : ByteArray} {x : Tok} (h0 : (dLine s)[0]? = some x) : isNameT s = (decide ((dLine s).length = 1) && decide (x.kind = 5)) := by
  by_cases hz : s.size = 0
  · obtain rfl : s = ByteArray.empty := ByteArray.size_eq_zero_iff.1 hz
    have : dLine ByteArray.empty = [] := dLine_nil
    rw [this] at h0
    cases h0
  · have h1 : 0 < s.size := by omega
    have hx : x = dFirst s := by rw [dLine_cons h1] at h0; exact (Option.some.inj h0).symm
    subst hx
    unfold isNameT
    have := line_name h1
    rw [Bool.eq_iff_iff]
    simp only [Bool.and_eq_true, decide_eq_true_eq]
    constructor
    · rintro ⟨_, h⟩; exact this.1 h
    · intro h; exact ⟨h1, this.2 h⟩
theorem name_not {s : ByteArray} (h : (dLine s).length ≠ 1) : isNameT s = false := by
  by_cases hz : s.size = 0
  · unfold isNameT
    simp [hz]
  · have h1 : 0 < s.size := by omega
    unfold isNameT
    simp only [Bool.and_eq_false_iff, decide_eq_false_iff_not]
    exact .inr (fun e => h ((line_name h1).1 e).1)

set_option maxRecDepth 100000 in
set_option maxHeartbeats 8000000 in
theorem lexNames_any (s0 : ByteArray) (w : World) (hs : s0.size ≤ maxLen) (hT : Tabs w) :
    Calls Tryd.prog 4 #[.string s0] w fun e w' => e = .returned (.bool true) ∧ Below w.heap.size w w' := by
  have HS := Lib.hid (shown_any w hT)
  have HC := Lib.hid (fun u => cutC s0 u hs)
  have hcl := cut_len s0
  have HT := Lib.hid hT
  clear hs hT
  generalize cut300 s0 = s at *
  have HLn := Lib.hid (fun W h => LineC s W (by omega) h)
  have HNm := Lib.hid (fun W h => IsName_any s W (by omega) h)
  have hll := dLine_len s
  have HN0 : Hid (∀ x, (dLine s)[0]? = some x → isNameT s = (decide ((dLine s).length = 1) && decide (x.kind = 5))) := Lib.hid (fun x h => name_line h)
  have HN1 : Hid ((dLine s).length ≠ 1 → isNameT s = false) := Lib.hid name_not
  generalize dLine s = l at *
  generalize isNameT s = b at *
  go_enter Tryd.func4, Tryd.ntmps4
  go_wp2_with fail
  refine HS.out.mono ?_
  rintro e w1 ⟨rfl, hb1⟩
  have hT1 := HT.out.below hb1
  go_wp2_with fail
  refine (HC.out _).mono ?_
  rintro e w2 ⟨rfl, rfl⟩
  have HLw := Lib.hid (HLn.out _ hT1)
  go_wp2_with fail
  refine HLw.out.mono ?_
  rintro e w3 ⟨A3, c3, rfl, hH3, q3, hb3⟩
  have hB3 := Lib.hid (hb1.trans (hb3.mono hb1.size))
  have HNw := Lib.hid (HNm.out _ (hT1.below hb3))
  have HH3 := Lib.hid hH3
  clear HS HC HT HLn HNm HLw hT1 hb1 hb3 hH3
  by_cases hl1 : l.length = 1
  · have g0 := List.getElem?_eq_getElem (l := l) (i := 0) (by omega)
    generalize l[0]'(by omega) = x at *
    have hbx := HN0.out x g0
    have ql : ((l.length : Int) == 1) = true := by rw [hl1]; rfl
    have hlp : 0 < l.length := by omega
    have hbx2 : b = (x.kind == 5) := by
      rw [hbx, hl1, Bool.eq_iff_iff]
      simp
    have HBX := Lib.hid hbx2
    obtain ⟨b1, off1, rfl, _⟩ := HH3.out 0 x g0
    have HG0 := Lib.hid g0
    clear hbx hbx2 HN0 HN1 hl1 g0
    go_wp2_with fail
    refine HNw.out.mono ?_
    rintro e w4 ⟨rfl, hb4⟩
    obtain ⟨b2, off2, e2, d0, _, _⟩ := (HH3.out.below hb4) 0 x HG0.out
    cases e2
    have d0' : w4.cell? ⟨b1, off1, none⟩ = some (.int .i64 x.kind) := by simpa using d0
    have B4 := Lib.hid (hB3.out.trans (hb4.mono hB3.out.size))
    have qb : (b == (x.kind == 5)) = true := by rw [HBX.out]; simp
    clear d0 hb4 HNw
    go_wp2_with fail
    go_ret
    exact ⟨by first | rfl | (rw [qb]; rfl), B4.out⟩
  · have ql : ((l.length : Int) == 1) = false := by simp; omega
    have hbx := HN1.out hl1
    subst hbx
    clear HN0 HN1 hl1
    go_wp2_with fail
    refine HNw.out.mono ?_
    rintro e w4 ⟨rfl, hb4⟩
    have B4 := Lib.hid (hB3.out.trans (hb4.mono hB3.out.size))
    go_wp2_with fail
    go_ret
    exact ⟨rfl, B4.out⟩
end Go.Proofs.YteojnejomgomjaaDoor
