/-
  The law GroupParts: true.
-/
import Derived.Test.YtlokkdbgihbnhaaDoorProg
import Derived.Test.YtlokkdbgihbnhaaDoorReg
import Derived.WalkKit
import Derived.WalkSpells
import Derived.WalkLawsBesides
import Derived.Lib.Hide
import Derived.Lib.MinMax
import Derived.Deep.QuietTactic
import Derived.BigQuiet
import Derived.OwnWalk
import Derived.Deep.AppendLies
import Derived.KernelRfl
import Derived.Laws.Rows
import Derived.Test.YtlokkdbgihbnhaaDoorRegG
import Derived.Test.YtlokkdbgihbnhaaDoorGrpSh
import Derived.Test.YtlokkdbgihbnhaaDoorGrpRc
set_option linter.unusedSimpArgs false
set_option linter.unusedVariables false
namespace Go.Proofs.YtlokkdbgihbnhaaDoor
open Go Go.RowKit

theorem joined_bounds : ∀ {ps : List (List Tok)} {l : List Tok}, Joined l ps → ps.length ≤ l.length + 1 ∧ ∀ p ∈ ps, p.length ≤ l.length
  | [], l, h => by simp [Joined] at h
  | [p], l, h => by
    simp only [Joined] at h
    subst h
    simp
  | p :: q :: ps, l, h => by
    obtain ⟨x, r, rfl, hr⟩ := h
    obtain ⟨h1, h2⟩ := joined_bounds hr
    refine ⟨by simp only [List.length_cons, List.length_append] at h1 ⊢; omega, fun p' hp => ?_⟩
    rcases List.mem_cons.1 hp with rfl | hp
    · simp only [List.length_append, List.length_cons]; omega
    · have := h2 p' hp
      simp only [List.length_append, List.length_cons]
      omega
theorem split_bounds {l : List Tok} (g : ByteArray) (h : l.length ≤ 1000) : (splitRes l g).1.length ≤ 1000000 ∧ ∀ p ∈ (splitRes l g).1, p.length ≤ 1000000 := by
  unfold splitRes
  split
  · rename_i hc
    obtain ⟨h1, h2⟩ := joined_bounds (whole_law g hc).1
    exact ⟨by show (splitOf l g).length ≤ _; omega, fun p hp => by have := h2 p hp; omega⟩
  · exact ⟨by simp, fun p hp => by simp at hp⟩
theorem inside_bounds {l : List Tok} (a : Int) (h : l.length ≤ 1000) : (insideRes l a).1.length ≤ 1000000 := by
  unfold insideRes
  split
  · split
    · simp only [seg, List.length_take, List.length_drop]; omega
    · simp
  · simp

set_option maxRecDepth 100000 in
set_option maxHeartbeats 8000000 in
theorem groupParts_any (A : Option Addr) (c : Nat) (l0 : List Tok) (g : ByteArray) (p : Int) (w : World) (hl0 : l0.length ≤ maxLen) (hs0 : ∀ (k : Nat) (x : Tok), l0[k]? = some x → x.text.size ≤ maxLen ∧ x.glyph.size ≤ maxLen) (hh0 : HoldsT w A l0) (hg0 : Listed w) :
    Calls Tryd.prog 7 #[.slice A l0.length c, .string g, .int .i64 p] w fun e w' => e = .returned (.bool true) ∧ Below w.heap.size w w' := by
  have HSh := Lib.hid (shown_any w hg0)
  have HF := Lib.hid (fun u hu => few_any A c l0 u hl0 hs0 hu)
  go_enter Tryd.func7, Tryd.ntmps7
  go_wp2_with fail
  refine HSh.out.mono ?_
  rintro e w1 ⟨rfl, hb1⟩
  have hh1 := hh0.below hb1
  have hg1 := hg0.below hb1
  clear HSh
  go_wp2_with fail
  refine (HF.out _ hh1).mono ?_
  rintro e w2 ⟨B, d, rfl, hT2, hd, hb2⟩
  have hm := mild_few l0
  have hb12 := hb1.trans (hb2.mono hb1.size)
  have hg2 := hg1.below hb2
  generalize few l0 = l at *
  clear HF hb1 hb2 hh1 hg1 hs0
  have H1 := Lib.hid (gsplit_any B d l g w2 hm hd hT2 hg2)
  go_wp2_with fail
  refine H1.out.mono ?_
  rintro e w3 ⟨B3, d3, rfl, hm3, hb3⟩
  have hT3 := hT2.below hb3
  have hg3 := hg2.below hb3
  have hb13 := hb12.trans (hb3.mono hb12.size)
  clear H1 hb12 hb3 hT2 hg2
  have H2 := Lib.hid (rsplit_any B d l g w3 hm hd hT3)
  go_wp2_with fail
  refine H2.out.mono ?_
  rintro e w4 ⟨B4, d4, rfl, hm4, hb4⟩
  have hT4 := hT3.below hb4
  have hg4 := hg3.below hb4
  have hm34 := hm3.below hb4
  have hb14 := hb13.trans (hb4.mono hb13.size)
  clear H2 hb13 hb4 hT3 hg3 hm3
  have H3 := Lib.hid (ginside_any B d l p w4 hm hd hT4 hg4)
  go_wp2_with fail
  refine H3.out.mono ?_
  rintro e w5 ⟨B5, d5, rfl, hm5, hb5⟩
  have hT5 := hT4.below hb5
  have hm35 := hm34.below hb5
  have hm45 := hm4.below hb5
  have hb15 := hb14.trans (hb5.mono hb14.size)
  clear H3 hb14 hb5 hT4 hg4 hm34 hm4
  have H4 := Lib.hid (rinside_any B d l p w5 hm hd hT5)
  go_wp2_with fail
  refine H4.out.mono ?_
  rintro e w6 ⟨B6, d6, rfl, hm6, hb6⟩
  have hm36 := hm35.below hb6
  have hm46 := hm45.below hb6
  have hm56 := hm5.below hb6
  have hb16 := Lib.hid (hb15.trans (hb6.mono hb15.size))
  obtain ⟨s1, s2⟩ := split_bounds g hm.1
  have s3 := inside_bounds p hm.1
  have HI1 : Hid (Calls Tryd.prog 23 #[.slice B3 (splitRes l g).1.length d3, .slice B4 (splitRes l g).1.length d4] w6 fun r w' => r = .returned (.bool true) ∧ ∃ n, w' = w6.drewN n) :=
    Lib.hid (by simpa using parts_any B3 B4 d3 d4 (splitRes l g).1 (splitRes l g).1 w6 s1 s1 hm36 hm46 s2 s2)
  have HI2 : Hid (∀ n, Calls Tryd.prog 19 #[.slice B5 (insideRes l p).1.length d5, .slice B6 (insideRes l p).1.length d6] (w6.drewN n) fun r w' => r = .returned (.bool true) ∧ ∃ m, w' = (w6.drewN n).drewN m) :=
    Lib.hid (fun n => by simpa using same_any B5 B6 d5 d6 (insideRes l p).1 (insideRes l p).1 (w6.drewN n) s3 s3 (hm56.drewN n) (hm6.drewN n))
  clear H4 hb15 hb6 hT5 hm35 hm45 hm5 hm6 hm36 hm46 hm56 s1 s2 s3
  generalize splitRes l g = sr at *
  generalize insideRes l p = ir at *
  obtain ⟨sr1, sr2⟩ := sr
  obtain ⟨ir1, ir2⟩ := ir
  simp only at HI1 HI2
  have q1 : (sr2 == sr2) = true := by simp
  have q2 : (ir2 == ir2) = true := by simp
  go_wp2_with fail
  refine HI1.out.mono ?_
  rintro e w7 ⟨rfl, n7, rfl⟩
  go_wp2_with fail
  refine (HI2.out n7).mono ?_
  rintro e w8 ⟨rfl, n8, rfl⟩
  go_wp2_with fail
  go_ret
  exact ⟨rfl, below_drewN hb16.out _⟩
end Go.Proofs.YtlokkdbgihbnhaaDoor
