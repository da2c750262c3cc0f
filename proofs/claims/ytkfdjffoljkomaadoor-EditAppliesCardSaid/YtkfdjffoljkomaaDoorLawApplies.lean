/-
  The walk of the statement EditApplies.
-/
import Derived.Test.YtkfdjffoljkomaaDoorProg
import Derived.Test.YtkfdjffoljkomaaDoorReg
import Derived.WalkKit
import Derived.WalkSpells
import Derived.WalkLawsBesides
import Derived.Lib.Hide
import Derived.Lib.MinMax
import Derived.Deep.QuietTactic
import Derived.BigQuiet
import Derived.OwnWalk
import Derived.Deep.AppendLies
import Derived.KernelRfl
import Derived.Test.YtkfdjffoljkomaaDoorEdJ
import Derived.Test.YtkfdjffoljkomaaDoorEdV
import Derived.Test.YtkfdjffoljkomaaDoorEdG
import Derived.Lib.MinMax
namespace Go.Proofs.YtkfdjffoljkomaaDoor
open Go.RowKit

theorem applyOut_two (s : ByteArray) (l : List Ed) : (right s.size 0 l = false ∧ applyOut s l = .tuple #[.string ByteArray.empty, .int .i64 130]) ∨ (right s.size 0 l = true ∧ applyOut s l = .tuple #[.string (applied s l), .int .i64 0]) := by
  cases h : right s.size 0 l
  · exact .inl ⟨rfl, applyOut_no h⟩
  · exact .inr ⟨rfl, applyOut_yes h⟩

set_option maxRecDepth 100000 in
set_option maxHeartbeats 4000000 in
theorem editApplies_any (s : ByteArray) (A : Option Addr) (c : Nat) (l : List Ed) (p : Int) (b : Addr) (w : World) (hs : s.size ≤ maxLen) (hl : l.length ≤ maxLen) (hx : ∀ (k : Nat) (x : Ed), l[k]? = some x → x.s.size ≤ maxLen) (hh : Holds w A l) (hg : ErrAt b w) :
    Calls Tryd.prog 5 #[.string s, .slice A l.length c, .int .i64 p] w fun e w' => e = .returned (.bool true) ∧ Below w.heap.size w w' := by
  have HS := Lib.hid (shown_any b w hg)
  have Hg := Lib.hid hg
  clear hg
  go_enter Tryd.func5, Tryd.ntmps5
  go_wp2_with fail
  refine HS.out.mono ?_
  rintro e w1 ⟨rfl, hb1⟩
  go_wp2_with fail
  refine (show Calls _ _ _ _ fun e w' => e = .returned (.string (cut s)) ∧ w1 = w' from cut_any s w1 hs).mono ?_
  rintro e w1' ⟨rfl, rfl⟩
  have hcs := cut_small s
  generalize cut s = S at *
  go_wp2_with fail
  refine (few_any A c l w1 hl hx (hh.below hb1)).mono ?_
  rintro e w2 ⟨B, d, rfl, hH2, hd2, hb2⟩
  have hsm := small_few l
  generalize few l = L at *
  have hm := small_mild hsm
  have b12 : Below w.heap.size w w2 := hb1.trans (hb2.mono hb1.size)
  have hg2 := Hg.out.below b12
  clear hl hx hh hb1 hb2 HS
  go_wp2_with fail
  obtain ⟨q, hq, hq0, hq1⟩ : ∃ q : Int, q = max (-10000) (min p 10000) ∧ -10000 ≤ q ∧ q ≤ 10000 := ⟨_, rfl, by omega, by omega⟩
  simp only [← hq]
  clear hq
  refine (apply_any S B d L b w2 (by omega) hm hd2 hH2 hg2).mono ?_
  rintro e w3 ⟨rfl, hb3⟩
  have hH3 := hH2.below hb3
  have hg3 := hg2.below hb3
  have b13 : Below w.heap.size w w3 := b12.trans (hb3.mono b12.size)
  clear hb3 b12 hd2 hH2 hg2
  rcases applyOut_two S L with ⟨hr, ho⟩ | ⟨hr, ho⟩
  · rw [ho]
    have hA := refApply_any S B d L w3 (by omega) hm hH3
    rw [ho] at hA
    have HA := Lib.hid hA
    have Hr := Lib.hid hr
    clear ho hA hr
    go_wp2_with fail
    refine HA.out.mono ?_
    rintro e w4 ⟨rfl, n4, rfl⟩
    clear HA
    have HC := Lib.hid (back_any S B d L b (w3.drewN n4) (by omega) hm (hH3.drewN n4) hg3)
    go_wp2_with fail
    refine HC.out.mono ?_
    rintro e w4 ⟨ho, hb4⟩
    rw [backOut_no Hr.out] at ho
    subst ho
    have b14 : Below w.heap.size w w4 := (below_drewN b13 n4).trans (hb4.mono (by have := b13.size; simpa using this))
    have hH4 := (hH3.drewN n4).below hb4
    have hg4 := (show ErrAt b (w3.drewN n4) from hg3).below hb4
    clear HC hb4 hH3 hg3 b13
    have HD := Lib.hid (refBack_any S B d L w4 (by omega) hm hH4)
    go_wp2_with fail
    refine HD.out.mono ?_
    rintro e w5 ⟨ho, hb5⟩
    rw [backOut_no Hr.out] at ho
    subst ho
    have b15 : Below w.heap.size w w5 := b14.trans (hb5.mono b14.size)
    have hH5 := hH4.below hb5
    have hg5 := hg4.below hb5
    clear HD hb5 hH4 hg4 b14
    have hR := right_any S B d L b w5 (by omega) hm hH5 hg5
    rw [Hr.out] at hR
    have HR := Lib.hid hR
    clear hR
    go_wp2_with fail
    refine HR.out.mono ?_
    rintro e w6 ⟨rfl, hb6⟩
    have b16 : Below w.heap.size w w6 := b15.trans (hb6.mono b15.size)
    have hH6 := hH5.below hb6
    clear HR hb6 hH5 hg5 b15
    have hR := refRight_any S B d L w6 (by omega) hm hH6
    rw [Hr.out] at hR
    have HR := Lib.hid hR
    clear hR
    go_wp2_with fail
    refine HR.out.mono ?_
    rintro e w7 ⟨rfl, n7, rfl⟩
    clear HR
    have hSm := refSame_any none none 0 0 [] [] (w6.drewN n7) (by simp) (by simp) (Holds.nil _ _) (Holds.nil _ _)
    simp only [decide_true] at hSm
    have HSm := Lib.hid hSm
    clear hSm
    go_wp2_with fail
    refine HSm.out.mono ?_
    rintro e w8 ⟨rfl, n8, rfl⟩
    clear HSm
    have HM := Lib.hid (moved_any B d L q (w6.drewN (n7 + n8)) hm (by omega) (by omega) (hH6.drewN (n7 + n8)))
    go_wp2_with fail
    refine HM.out.mono ?_
    rintro e w9 ⟨rfl, hb9⟩
    have hH9 := (hH6.drewN (n7 + n8)).below hb9
    have b19 : Below w.heap.size w w9 := (below_drewN b16 (n7 + n8)).trans (hb9.mono (by have := b16.size; simpa using this))
    have HN := Lib.hid (refMoved_any B d L q w9 hm (by omega) (by omega) hH9)
    clear HM hb9 b16 hH6
    go_wp2_with fail
    refine HN.out.mono ?_
    rintro e w10 ⟨rfl, n10, rfl⟩
    clear HN
    go_wp2_with fail
    go_ret
    exact ⟨rfl, below_drewN b19 n10⟩
  · rw [ho]
    have hA := refApply_any S B d L w3 (by omega) hm hH3
    rw [ho] at hA
    have HA := Lib.hid hA
    have hq1 := bytes_beq_yes (rfl : applied S L = applied S L)
    have Hr := Lib.hid hr
    clear ho hA hr
    go_wp2_with fail
    refine HA.out.mono ?_
    rintro e w4 ⟨rfl, n4, rfl⟩
    clear HA
    have HC := Lib.hid (back_any S B d L b (w3.drewN n4) (by omega) hm (hH3.drewN n4) hg3)
    go_wp2_with fail
    refine HC.out.mono ?_
    rintro e w4 ⟨ho, hb4⟩
    rw [backOut_yes Hr.out] at ho
    obtain ⟨C, c2, rfl, hC4, _⟩ := ho
    have b14 : Below w.heap.size w w4 := (below_drewN b13 n4).trans (hb4.mono (by have := b13.size; simpa using this))
    have hH4 := (hH3.drewN n4).below hb4
    have hg4 := (show ErrAt b (w3.drewN n4) from hg3).below hb4
    clear HC hb4 hH3 hg3 b13
    have HD := Lib.hid (refBack_any S B d L w4 (by omega) hm hH4)
    go_wp2_with fail
    refine HD.out.mono ?_
    rintro e w5 ⟨ho, hb5⟩
    rw [backOut_yes Hr.out] at ho
    obtain ⟨D, c3, rfl, hD5, _⟩ := ho
    have hC5 := hC4.below hb5
    have b15 : Below w.heap.size w w5 := b14.trans (hb5.mono b14.size)
    have hH5 := hH4.below hb5
    have hg5 := hg4.below hb5
    clear HD hb5 hH4 hg4 b14
    have hR := right_any S B d L b w5 (by omega) hm hH5 hg5
    rw [Hr.out] at hR
    have HR := Lib.hid hR
    clear hR
    go_wp2_with fail
    refine HR.out.mono ?_
    rintro e w6 ⟨rfl, hb6⟩
    have b16 : Below w.heap.size w w6 := b15.trans (hb6.mono b15.size)
    have hH6 := hH5.below hb6
    have hC6 := hC5.below hb6
    have hD6 := hD5.below hb6
    clear HR hb6 hH5 hg5 b15
    have hR := refRight_any S B d L w6 (by omega) hm hH6
    rw [Hr.out] at hR
    have HR := Lib.hid hR
    clear hR
    go_wp2_with fail
    refine HR.out.mono ?_
    rintro e w7 ⟨rfl, n7, rfl⟩
    clear HR
    have hSm := refSame_any C D c2 c3 (backL S 0 L) (backL S 0 L) (w6.drewN n7) (by rw [back_len]; have := hsm.1; omega) (by rw [back_len]; have := hsm.1; omega) (hC6.drewN n7) (hD6.drewN n7)
    simp only [decide_true] at hSm
    have HSm := Lib.hid hSm
    clear hSm
    go_wp2_with fail
    refine HSm.out.mono ?_
    rintro e w8 ⟨rfl, n8, rfl⟩
    clear HSm
    have HM := Lib.hid (moved_any B d L q (w6.drewN (n7 + n8)) hm (by omega) (by omega) (hH6.drewN (n7 + n8)))
    go_wp2_with fail
    refine HM.out.mono ?_
    rintro e w9 ⟨rfl, hb9⟩
    have hH9 := (hH6.drewN (n7 + n8)).below hb9
    have b19 : Below w.heap.size w w9 := (below_drewN b16 (n7 + n8)).trans (hb9.mono (by have := b16.size; simpa using this))
    have HN := Lib.hid (refMoved_any B d L q w9 hm (by omega) (by omega) hH9)
    clear HM hb9 b16 hH6
    go_wp2_with fail
    refine HN.out.mono ?_
    rintro e w10 ⟨rfl, n10, rfl⟩
    clear HN
    go_wp2_with fail
    go_ret
    exact ⟨rfl, below_drewN b19 n10⟩
end Go.Proofs.YtkfdjffoljkomaaDoor
