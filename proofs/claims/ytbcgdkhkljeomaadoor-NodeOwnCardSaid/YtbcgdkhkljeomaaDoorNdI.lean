/-
  Are two lists of nodes the same? By the program and by the reference.
-/
import Derived.Test.YtbcgdkhkljeomaaDoorProg
import Derived.Test.YtbcgdkhkljeomaaDoorReg
import Derived.WalkKit
import Derived.WalkSpells
import Derived.WalkLawsBesides
import Derived.Lib.Hide
import Derived.Lib.MinMax
import Derived.Deep.QuietTactic
import Derived.BigQuiet
import Derived.OwnWalk
import Derived.Deep.AppendLies
import Derived.KernelRfl
import Derived.Test.YtbcgdkhkljeomaaDoorNdG
set_option linter.unusedSimpArgs false
set_option linter.unusedVariables false
namespace Go.Proofs.YtbcgdkhkljeomaaDoor
open Go.RowKit

set_option maxRecDepth 100000 in
set_option maxHeartbeats 4000000 in
theorem equalFunc_any (t u : List Nd) (A C : Option Addr) (c d : Nat) (w : World) (hl : t.length ≤ 1000) (hm : u.length ≤ 1000) (hA : HoldsN w A t) (hC : HoldsN w C u) (it : IntN t) (iu : IntN u) :
    Calls Tryd.prog 43 #[.slice A t.length c, .slice C u.length d, .func (.func 44) #[] #[]] w fun r w' => r = .returned (.bool (decide (t = u))) ∧ Below w.heap.size w w' := by
  have HA := Lib.hid hA
  have HC := Lib.hid hC
  have HT := Lib.hid it
  have HU := Lib.hid iu
  have HSO := Lib.hid sameOne_any
  clear hA hC it iu
  by_cases hlen : t.length = u.length
  · have Hall : Hid (t.take t.length = u.take t.length → t = u) := Lib.hid (by
      intro h
      rw [List.take_of_length_le (Nat.le_refl _), List.take_of_length_le (by omega)] at h
      exact h)
    have q1 : ((t.length : Int) != (u.length : Int)) = false := by simp; omega
    have HLN := Lib.hid hlen
    clear hlen
    go_enter Tryd.func43, Tryd.ntmps43
    go_wp2
    go_loopw [17] (fun i wr => ∃ k : Nat, k ≤ t.length ∧ i = .int .i64 k ∧ Hid (t.take k = u.take k) ∧ Hid (Below w.heap.size w wr)) (fun i _ => t.length - (intOf i).toNat)
    case atStart => exact ⟨0, by omega, rfl, Lib.hid rfl, Lib.hid (Below.refl _ _)⟩
    case round =>
      obtain ⟨k, hk, rfl, HR, HB⟩ := hrel
      by_cases hlt : k < t.length
      · have hlt2 : k < u.length := by rw [← HLN.out]; exact hlt
        have g1 := List.getElem?_eq_getElem hlt
        have g2 := List.getElem?_eq_getElem hlt2
        have m1 := List.getElem_mem hlt
        have m2 := List.getElem_mem hlt2
        have Hs : Hid (t[k] = u[k] → t.take (k + 1) = u.take (k + 1)) := Lib.hid (fun h => by rw [List.take_succ_eq_append_getElem hlt, List.take_succ_eq_append_getElem hlt2, HR.out, h])
        have Hn : Hid (t[k] ≠ u[k] → t ≠ u) := Lib.hid (fun h e => h (by subst e; rfl))
        clear HR
        generalize t[k] = x at *
        generalize u[k] = y at *
        obtain ⟨b, off, rfl, c0, c1, B, c2, c3, hK, hc⟩ := HA.out k x g1
        obtain ⟨b', off', rfl, e0, e1, D, e2, e3, hK', hc'⟩ := HC.out k y g2
        have hb := HB.out
        have lb : b < w.heap.size := cell_lt c0
        have lb' : b' < w.heap.size := cell_lt e0
        have d0 := (hb.cell (p := ⟨b, _, none⟩) lb).trans c0
        have d1 := (hb.cell (p := ⟨b, _, none⟩) lb).trans c1
        have d2 := (hb.cell (p := ⟨b, _, none⟩) lb).trans c3
        have f0 := (hb.cell (p := ⟨b', _, none⟩) lb').trans e0
        have f1 := (hb.cell (p := ⟨b', _, none⟩) lb').trans e1
        have f2 := (hb.cell (p := ⟨b', _, none⟩) lb').trans e3
        have hsz := hb.size
        have ltr : b < wr.heap.size := by omega
        have ltr' : b' < wr.heap.size := by omega
        have hb9 : Below w.heap.size w ((wr.alloc (.cells #[.int .i64 x.kind, .string x.text, .slice B x.kids.length c2] 37)).alloc (.cells #[.int .i64 y.kind, .string y.text, .slice D y.kids.length e2] 37)) := (hb.alloc hsz _).alloc (by simp; omega) _
        have HX := Lib.hid (HSO.out x y B D c2 e2 _ (HT.out x m1).2.1 (HU.out y m2).2.1 (hK.below hb9) (hK'.below hb9))
        have HB9 := Lib.hid hb9
        unfold Nd.value at HX
        clear c0 c1 c3 e0 e1 e3 hK hK' g1 g2 m1 m2 hb9 hb HB
        have lt2 : (k : Int) < (u.length : Int) := by omega
        go_wp2_with fail
        refine HX.out.mono ?_
        rintro e w4 ⟨rfl, hb4⟩
        clear HX
        by_cases he : x = y
        · have Hz := Lib.hid (Hs.out he)
          have q3 : decide (x = y) = true := decide_eq_true he
          clear Hs Hn he
          rw [q3]
          go_wp2
          go_roundw
          case rel => exact ⟨k + 1, by omega, by go_num, Hz, Lib.hid (HB9.out.trans (hb4.mono HB9.out.size))⟩
          case measure => simp [intOf]; omega
        · have Hz : Hid (decide (t = u) = false) := Lib.hid (decide_eq_false (Hn.out he))
          have q3 : decide (x = y) = false := decide_eq_false he
          clear Hs Hn he
          rw [q3]
          go_wp2
          go_ret
          rw [Hz.out]
          exact ⟨rfl, HB9.out.trans (hb4.mono HB9.out.size)⟩
      · obtain rfl : k = t.length := by omega
        have Hz : Hid (decide (t = u) = true) := Lib.hid (decide_eq_true (Hall.out HR.out))
        clear HR
        go_wp2
        go_ret
        rw [Hz.out]
        exact ⟨rfl, HB.out⟩
  · have Hz : Hid (decide (t = u) = false) := Lib.hid (decide_eq_false (fun e => hlen (by rw [e])))
    have q1 : ((t.length : Int) != (u.length : Int)) = true := by simp; omega
    go_enter Tryd.func43, Tryd.ntmps43
    go_wp2
    go_ret
    rw [Hz.out]
    exact ⟨rfl, Below.refl _ _⟩

set_option maxRecDepth 100000 in
set_option maxHeartbeats 4000000 in
theorem same_any (t u : List Nd) (A C : Option Addr) (c d : Nat) (w : World) (hl : t.length ≤ 1000) (hm : u.length ≤ 1000) (hA : HoldsN w A t) (hC : HoldsN w C u) (it : IntN t) (iu : IntN u) :
    Calls Tryd.prog 27 #[.slice A t.length c, .slice C u.length d] w fun r w' => r = .returned (.bool (decide (t = u))) ∧ Below w.heap.size w w' := by
  have H := Lib.hid (equalFunc_any t u A C c d w hl hm hA hC it iu)
  clear hA hC it iu
  go_enter Tryd.func27, Tryd.ntmps27
  go_wp2_with fail
  refine H.out.mono ?_
  rintro e w4 ⟨rfl, hb4⟩
  go_wp2
  go_ret
  exact ⟨rfl, hb4⟩

set_option maxRecDepth 100000 in
set_option maxHeartbeats 4000000 in
theorem refSame_any (t u : List Nd) (A C : Option Addr) (c d : Nat) (w : World) (hl : t.length ≤ 1000) (hm : u.length ≤ 1000) (hA : HoldsN w A t) (hC : HoldsN w C u) (it : IntN t) (iu : IntN u) :
    Calls Tryd.prog 19 #[.slice A t.length c, .slice C u.length d] w fun r w' => r = .returned (.bool (decide (t = u))) ∧ Below w.heap.size w w' := by
  have HA := Lib.hid hA
  have HC := Lib.hid hC
  have HT := Lib.hid it
  have HU := Lib.hid iu
  have HSO := Lib.hid one_any
  clear hA hC it iu
  by_cases hlen : t.length = u.length
  · have Hall : Hid (t.take t.length = u.take t.length → t = u) := Lib.hid (by
      intro h
      rw [List.take_of_length_le (Nat.le_refl _), List.take_of_length_le (by omega)] at h
      exact h)
    have q1 : ((t.length : Int) != (u.length : Int)) = false := by simp; omega
    have HLN := Lib.hid hlen
    clear hlen
    go_enter Tryd.func19, Tryd.ntmps19
    go_wp2
    go_loopw [5] (fun i wr => ∃ k : Nat, k ≤ t.length ∧ i = .int .i64 k ∧ Hid (t.take k = u.take k) ∧ Hid (Below w.heap.size w wr)) (fun i _ => t.length - (intOf i).toNat)
    case atStart => exact ⟨0, by omega, rfl, Lib.hid rfl, Lib.hid (Below.refl _ _)⟩
    case round =>
      obtain ⟨k, hk, rfl, HR, HB⟩ := hrel
      by_cases hlt : k < t.length
      · have hlt2 : k < u.length := by rw [← HLN.out]; exact hlt
        have g1 := List.getElem?_eq_getElem hlt
        have g2 := List.getElem?_eq_getElem hlt2
        have m1 := List.getElem_mem hlt
        have m2 := List.getElem_mem hlt2
        have Hs : Hid (t[k] = u[k] → t.take (k + 1) = u.take (k + 1)) := Lib.hid (fun h => by rw [List.take_succ_eq_append_getElem hlt, List.take_succ_eq_append_getElem hlt2, HR.out, h])
        have Hn : Hid (t[k] ≠ u[k] → t ≠ u) := Lib.hid (fun h e => h (by subst e; rfl))
        clear HR
        generalize t[k] = x at *
        generalize u[k] = y at *
        obtain ⟨b, off, rfl, c0, c1, B, c2, c3, hK, hc⟩ := HA.out k x g1
        obtain ⟨b', off', rfl, e0, e1, D, e2, e3, hK', hc'⟩ := HC.out k y g2
        have HB5 : Hid (Below w.heap.size w wr.drew) := Lib.hid (below_drewN HB.out 1)
        have hb := HB5.out
        have lb : b < w.heap.size := cell_lt c0
        have lb' : b' < w.heap.size := cell_lt e0
        have d0 := (hb.cell (p := ⟨b, _, none⟩) lb).trans c0
        have d1 := (hb.cell (p := ⟨b, _, none⟩) lb).trans c1
        have d2 := (hb.cell (p := ⟨b, _, none⟩) lb).trans c3
        have f0 := (hb.cell (p := ⟨b', _, none⟩) lb').trans e0
        have f1 := (hb.cell (p := ⟨b', _, none⟩) lb').trans e1
        have f2 := (hb.cell (p := ⟨b', _, none⟩) lb').trans e3
        have HX := Lib.hid (HSO.out x y B D c2 e2 wr.drew (HT.out x m1).2.1 (HU.out y m2).2.1 (hK.below hb) (hK'.below hb))
        unfold Nd.value at HX
        clear c0 c1 c3 e0 e1 e3 hK hK' g1 g2 m1 m2 hb HB
        have lt2 : (k : Int) < (u.length : Int) := by omega
        have hsz := HB5.out.size
        have ltr : b < wr.drew.heap.size := Nat.lt_of_lt_of_le lb hsz
        have ltr' : b' < wr.drew.heap.size := Nat.lt_of_lt_of_le lb' hsz
        have LTR := Lib.hid (And.intro ltr ltr')
        clear hsz ltr ltr'
        by_cases he : x = y
        · have Hz := Lib.hid (Hs.out he)
          have q3 : decide (x = y) = true := decide_eq_true he
          clear Hs Hn he
          go_wp2
          refine wp_region_ord (S := fun w' => w'.cell? ⟨b, off + k * 3, none⟩ = some (.int .i64 x.kind) ∧ w'.cell? ⟨b, off + k * 3 + 1, none⟩ = some (.string x.text) ∧ w'.cell? ⟨b, off + k * 3 + 2, none⟩ = some (.slice B x.kids.length c2) ∧ w'.cell? ⟨b', off' + k * 3, none⟩ = some (.int .i64 y.kind) ∧ w'.cell? ⟨b', off' + k * 3 + 1, none⟩ = some (.string y.text) ∧ w'.cell? ⟨b', off' + k * 3 + 2, none⟩ = some (.slice D y.kids.length e2)) [0, 1, 2, 3, 4, 5, 6, 7] [8, 9] (by kernel_rfl) (by kernel_rfl) (fun _ _ _ _ _ h => h) ⟨d0, d1, d2, f0, f1, f2⟩ ?_
          simp only [pick, List.filterMap_cons, List.filterMap_nil, List.getElem?_toArray, List.getElem?_cons_zero, List.getElem?_cons_succ]
          repeat (refine wpHead_step (v := ?_) rfl ?_ ?_; rotate_left; (focus (rintro w1 ⟨d0, d1, d2, f0, f1, f2⟩; go_simp; try with_reducible rfl)); simp only [Act.put, List.setIfInBounds_toArray, List.set_cons_zero, List.set_cons_succ])
          refine wpHead_nil ?_
          refine wpTail_step rfl (fun K hK => ?_)
          go_wp2_with fail
          refine HX.out.mono ?_
          rintro e w4 ⟨rfl, hb4⟩
          rw [q3]
          have HB6 := Lib.hid (HB5.out.trans (hb4.mono HB5.out.size))
          have k0 := (hb4.cell (p := ⟨b, _, none⟩) LTR.out.1).trans d0
          have k1 := (hb4.cell (p := ⟨b, _, none⟩) LTR.out.1).trans d1
          have k2 := (hb4.cell (p := ⟨b, _, none⟩) LTR.out.1).trans d2
          have k3 := (hb4.cell (p := ⟨b', _, none⟩) LTR.out.2).trans f0
          have k4 := (hb4.cell (p := ⟨b', _, none⟩) LTR.out.2).trans f1
          have k5 := (hb4.cell (p := ⟨b', _, none⟩) LTR.out.2).trans f2
          clear d0 d1 d2 f0 f1 f2 hb4
          go_wp2_with fail
          refine hK _ _ ⟨k0, k1, k2, k3, k4, k5⟩ ?_
          clear hK K
          try simp only [Act.put, List.setIfInBounds_toArray, List.set_cons_zero, List.set_cons_succ]
          refine wpTail_step rfl (fun K hK => ?_)
          go_wp2_with fail
          refine hK _ _ ⟨k0, k1, k2, k3, k4, k5⟩ ?_
          clear hK K
          try simp only [Act.put, List.setIfInBounds_toArray, List.set_cons_zero, List.set_cons_succ]
          refine wpTail_nil ?_
          go_wp2_with fail
          go_roundw
          case rel => exact ⟨k + 1, by omega, by go_num, Hz, HB6⟩
          case measure => simp [intOf]; omega
        · have Hz : Hid (decide (t = u) = false) := Lib.hid (decide_eq_false (Hn.out he))
          have q3 : decide (x = y) = false := decide_eq_false he
          clear Hs Hn he
          go_wp2
          refine wp_region_ord (S := fun w' => w'.cell? ⟨b, off + k * 3, none⟩ = some (.int .i64 x.kind) ∧ w'.cell? ⟨b, off + k * 3 + 1, none⟩ = some (.string x.text) ∧ w'.cell? ⟨b, off + k * 3 + 2, none⟩ = some (.slice B x.kids.length c2) ∧ w'.cell? ⟨b', off' + k * 3, none⟩ = some (.int .i64 y.kind) ∧ w'.cell? ⟨b', off' + k * 3 + 1, none⟩ = some (.string y.text) ∧ w'.cell? ⟨b', off' + k * 3 + 2, none⟩ = some (.slice D y.kids.length e2)) [0, 1, 2, 3, 4, 5, 6, 7] [8, 9] (by kernel_rfl) (by kernel_rfl) (fun _ _ _ _ _ h => h) ⟨d0, d1, d2, f0, f1, f2⟩ ?_
          simp only [pick, List.filterMap_cons, List.filterMap_nil, List.getElem?_toArray, List.getElem?_cons_zero, List.getElem?_cons_succ]
          repeat (refine wpHead_step (v := ?_) rfl ?_ ?_; rotate_left; (focus (rintro w1 ⟨d0, d1, d2, f0, f1, f2⟩; go_simp; try with_reducible rfl)); simp only [Act.put, List.setIfInBounds_toArray, List.set_cons_zero, List.set_cons_succ])
          refine wpHead_nil ?_
          refine wpTail_step rfl (fun K hK => ?_)
          go_wp2_with fail
          refine HX.out.mono ?_
          rintro e w4 ⟨rfl, hb4⟩
          rw [q3]
          have HB6 := Lib.hid (HB5.out.trans (hb4.mono HB5.out.size))
          have k0 := (hb4.cell (p := ⟨b, _, none⟩) LTR.out.1).trans d0
          have k1 := (hb4.cell (p := ⟨b, _, none⟩) LTR.out.1).trans d1
          have k2 := (hb4.cell (p := ⟨b, _, none⟩) LTR.out.1).trans d2
          have k3 := (hb4.cell (p := ⟨b', _, none⟩) LTR.out.2).trans f0
          have k4 := (hb4.cell (p := ⟨b', _, none⟩) LTR.out.2).trans f1
          have k5 := (hb4.cell (p := ⟨b', _, none⟩) LTR.out.2).trans f2
          clear d0 d1 d2 f0 f1 f2 hb4
          go_wp2_with fail
          refine hK _ _ ⟨k0, k1, k2, k3, k4, k5⟩ ?_
          clear hK K
          try simp only [Act.put, List.setIfInBounds_toArray, List.set_cons_zero, List.set_cons_succ]
          refine wpTail_step rfl (fun K hK => ?_)
          go_wp2_with fail
          refine hK _ _ ⟨k0, k1, k2, k3, k4, k5⟩ ?_
          clear hK K
          try simp only [Act.put, List.setIfInBounds_toArray, List.set_cons_zero, List.set_cons_succ]
          refine wpTail_nil ?_
          go_wp2_with fail
          go_ret
          rw [Hz.out]
          exact ⟨rfl, HB6.out⟩
      · obtain rfl : k = t.length := by omega
        have Hz : Hid (decide (t = u) = true) := Lib.hid (decide_eq_true (Hall.out HR.out))
        clear HR
        go_wp2
        go_ret
        rw [Hz.out]
        exact ⟨rfl, HB.out⟩
  · have Hz : Hid (decide (t = u) = false) := Lib.hid (decide_eq_false (fun e => hlen (by rw [e])))
    have q1 : ((t.length : Int) != (u.length : Int)) = true := by simp; omega
    go_enter Tryd.func19, Tryd.ntmps19
    go_wp2
    go_ret
    rw [Hz.out]
    exact ⟨rfl, Below.refl _ _⟩
end Go.Proofs.YtbcgdkhkljeomaaDoor
