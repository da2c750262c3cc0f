/-
  The walk of the statement EditBack.
-/
import Derived.Test.YtkfdjffoljkomaaDoorProg
import Derived.Test.YtkfdjffoljkomaaDoorReg
import Derived.WalkKit
import Derived.WalkSpells
import Derived.WalkLawsBesides
import Derived.Lib.Hide
import Derived.Lib.MinMax
import Derived.Deep.QuietTactic
import Derived.BigQuiet
import Derived.OwnWalk
import Derived.Deep.AppendLies
import Derived.KernelRfl
import Derived.Test.YtkfdjffoljkomaaDoorEdJ
import Derived.Test.YtkfdjffoljkomaaDoorEdV
namespace Go.Proofs.YtkfdjffoljkomaaDoor
open Go.RowKit

theorem applyOut_cases (s : ByteArray) (l : List Ed) : (right s.size 0 l = false ∧ applyOut s l = .tuple #[.string ByteArray.empty, .int .i64 130]) ∨ (right s.size 0 l = true ∧ applyOut s l = .tuple #[.string (applied s l), .int .i64 0]) := by
  cases h : right s.size 0 l
  · exact .inl ⟨rfl, applyOut_no h⟩
  · exact .inr ⟨rfl, applyOut_yes h⟩

set_option maxRecDepth 100000 in
set_option maxHeartbeats 4000000 in
theorem editBack_any (s : ByteArray) (A : Option Addr) (c : Nat) (l : List Ed) (b : Addr) (w : World) (hs : s.size ≤ maxLen) (hl : l.length ≤ maxLen) (hx : ∀ (k : Nat) (x : Ed), l[k]? = some x → x.s.size ≤ maxLen) (hh : Holds w A l) (hg : ErrAt b w) :
    Calls Tryd.prog 3 #[.string s, .slice A l.length c] w fun e w' => e = .returned (.bool true) ∧ Below w.heap.size w w' := by
  have HS := Lib.hid (shown_any b w hg)
  have Hg := Lib.hid hg
  clear hg
  go_enter Tryd.func3, Tryd.ntmps3
  go_wp2_with fail
  refine HS.out.mono ?_
  rintro e w1 ⟨rfl, hb1⟩
  go_wp2_with fail
  refine (show Calls _ _ _ _ fun e w' => e = .returned (.string (cut s)) ∧ w1 = w' from cut_any s w1 hs).mono ?_
  rintro e w1' ⟨rfl, rfl⟩
  have hcs := cut_small s
  generalize cut s = S at *
  go_wp2_with fail
  refine (few_any A c l w1 hl hx (hh.below hb1)).mono ?_
  rintro e w2 ⟨B, d, rfl, hH2, hd2, hb2⟩
  have hsm := small_few l
  generalize few l = L at *
  have hm := small_mild hsm
  have b12 : Below w.heap.size w w2 := hb1.trans (hb2.mono hb1.size)
  have hg2 := Hg.out.below b12
  clear hl hx hh hb1 hb2 HS
  go_wp2_with fail
  refine (apply_any S B d L b w2 (by omega) hm hd2 hH2 hg2).mono ?_
  rintro e w3 ⟨rfl, hb3⟩
  have hH3 := hH2.below hb3
  have hg3 := hg2.below hb3
  have b13 : Below w.heap.size w w3 := b12.trans (hb3.mono b12.size)
  rcases applyOut_cases S L with ⟨hr, ho⟩ | ⟨hr, ho⟩
  · rw [ho]
    clear ho hH2 hg2 hb3 b12 hd2
    have HC := Lib.hid (back_any S B d L b w3 (by omega) hm hH3 hg3)
    have Hr := Lib.hid hr
    clear hr
    go_wp2_with fail
    refine HC.out.mono ?_
    rintro e w4 ⟨ho, hb4⟩
    rw [backOut_no Hr.out] at ho
    subst ho
    clear HC
    go_wp2_with fail
    go_ret
    exact ⟨rfl, b13.trans (hb4.mono b13.size)⟩
  · rw [ho]
    clear ho hH2 hg2 hb3 b12 hd2
    have HC := Lib.hid (back_any S B d L b w3 (by omega) hm hH3 hg3)
    have Hr := Lib.hid hr
    have hlaw := back_law S L hr
    have hT := applied_small hcs hsm hr
    have hM := mild_back hcs hsm
    clear hr
    go_wp2_with fail
    refine HC.out.mono ?_
    rintro e w4 ⟨ho, hb4⟩
    rw [backOut_yes Hr.out] at ho
    obtain ⟨C, c2, rfl, hH4, hc4⟩ := ho
    clear HC
    generalize applied S L = T at *
    generalize backL S 0 L = M at *
    obtain ⟨l1, l2, l3, l4⟩ := hlaw
    have b14 : Below w.heap.size w w4 := b13.trans (hb4.mono b13.size)
    have hg4 := hg3.below hb4
    have hL4 := hH3.below hb4
    have hA := apply_any T C c2 M b w4 (by omega) hM hc4 hH4 hg4
    rw [applyOut_yes l1, l2] at hA
    have HA := Lib.hid hA
    clear hA hb4 b13 hg3 hH3
    go_wp2_with fail
    refine HA.out.mono ?_
    rintro e w5 ⟨rfl, hb5⟩
    have b15 : Below w.heap.size w w5 := b14.trans (hb5.mono b14.size)
    have HD := Lib.hid (back_any T C c2 M b w5 (by omega) hM (hH4.below hb5) (hg4.below hb5))
    have hL5 := hL4.below hb5
    clear HA b14 hL4 hb5 hH4 hg4
    go_wp2_with fail
    refine HD.out.mono ?_
    rintro e w6 ⟨ho, hb6⟩
    rw [backOut_yes l1, l3] at ho
    obtain ⟨D, c3, rfl, hH6, hc6⟩ := ho
    have hL6 := hL5.below hb6
    have hSm := refSame_any D B c3 d L L w6 (by have := hsm.1; omega) (by have := hsm.1; omega) hH6 hL6
    simp only [decide_true] at hSm
    have HSm := Lib.hid hSm
    have b16 : Below w.heap.size w w6 := b15.trans (hb6.mono b15.size)
    clear HD hb6 b15 hSm hL5
    have L4 := Lib.hid l4
    clear l4 l3 l2 l1
    have hq := bytes_beq_yes (rfl : S = S)
    go_wp2_with (go_at_call 14; refine HSm.out.mono ?_; rintro e w7 ⟨rfl, n7, rfl⟩)
    have hMv := moved_any B d L S.size (w6.drewN n7) hm (by omega) (by omega) (hL6.drewN n7)
    rw [L4.out] at hMv
    refine hMv.mono ?_
    rintro e w8 ⟨rfl, hb8⟩
    go_wp2_with fail
    go_ret
    exact ⟨rfl, (below_drewN b16 n7).trans (hb8.mono (by have := b16.size; simpa using this))⟩
end Go.Proofs.YtkfdjffoljkomaaDoor
