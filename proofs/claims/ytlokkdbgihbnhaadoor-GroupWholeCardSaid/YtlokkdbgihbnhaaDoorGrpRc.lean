/-
  Insides, by the document's program text; are two lists of lists the same.
-/
import Derived.Test.YtlokkdbgihbnhaaDoorProg
import Derived.Test.YtlokkdbgihbnhaaDoorReg
import Derived.WalkKit
import Derived.WalkSpells
import Derived.WalkLawsBesides
import Derived.Lib.Hide
import Derived.Lib.MinMax
import Derived.Deep.QuietTactic
import Derived.BigQuiet
import Derived.OwnWalk
import Derived.Deep.AppendLies
import Derived.KernelRfl
import Derived.Laws.Rows
import Derived.Test.YtlokkdbgihbnhaaDoorGrpRb
set_option linter.unusedSimpArgs false
set_option linter.unusedVariables false
namespace Go.Proofs.YtlokkdbgihbnhaaDoor
open Go.RowKit

/-- The partner at a place that is told to lie behind. -/
theorem inside_pair {l : List Tok} (h : codeOf l = 0) {n : Nat} (hn : n < l.length) (hp : (n : Int) ≤ (brsOf l).pr n) : ∃ j : Nat, (brsOf l).pr n = j ∧ n < j ∧ j < l.length := by
  obtain ⟨j, h1, h2, h3, _⟩ := partners_law h hn (by omega)
  exact ⟨j, h1, by omega, h2⟩
theorem pr_get {l : List Tok} (h : codeOf l = 0) {n : Nat} (hn : n < l.length) : (brsOf l).pairs[n]? = some ((brsOf l).pr n) := by
  have h1 := (brsOf_len h).1
  unfold Brs.pr
  rw [List.getD_eq_getElem?_getD, List.getElem?_eq_getElem (by omega)]
  rfl
theorem insideRes_no {l : List Tok} {a : Int} (h : codeOf l = 0) (hn : ¬ (0 ≤ a ∧ a < l.length ∧ a ≤ (brsOf l).pr a.toNat)) : insideRes l a = ([], 60) := by
  unfold insideRes
  rw [if_pos h, if_neg hn]
theorem insideRes_yes {l : List Tok} {n j : Nat} (h : codeOf l = 0) (hn : n < l.length) (hp : (brsOf l).pr n = j) (hj : n < j) : insideRes l n = (seg l (n + 1) j, 0) := by
  unfold insideRes
  rw [if_pos h, if_pos ⟨by omega, by omega, by rw [Int.toNat_natCast, hp]; omega⟩, Int.toNat_natCast, hp, Int.toNat_natCast]

set_option maxRecDepth 100000 in
set_option maxHeartbeats 8000000 in
theorem rinside_any (A : Option Addr) (c : Nat) (l : List Tok) (a : Int) (w : World) (hl : mildT l) (hc : l.length ≤ c) (hh : HoldsT w A l) :
    Calls Tryd.prog 22 #[.slice A l.length c, .int .i64 a] w (TellsT w (insideRes l a).1 (insideRes l a).2) := by
  have HM := Lib.hid (fun u hu => rmatch_any A c l u hl hu)
  obtain ⟨hl1, hl2⟩ := hl
  go_enter Tryd.func22, Tryd.ntmps22
  go_wp2_with fail
  refine (HM.out _ hh).mono ?_
  rintro r w1 ⟨B1, d1, rfl, hD, hb1⟩
  by_cases h0 : codeOf l = 0
  · rw [matchOf_yes h0] at hD ⊢
    have hlen := (brsOf_len h0).1
    rw [hlen]
    have HD := Lib.hid hD
    have HB := Lib.hid hb1
    have H0 := Lib.hid h0
    rw [h0]
    clear hD hb1 h0 HM
    by_cases ha0 : a < 0
    · have HR := Lib.hid (insideRes_no (l := l) (a := a) H0.out (by omega))
      go_wp2_with fail
      go_ret2
      exact TellsT.mk none 0 0 (by rw [HR.out]; rfl) (by rw [HR.out]) (by rw [HR.out]; exact HoldsT.nil _ _) HB.out
    · by_cases ha1 : a < l.length
      · obtain ⟨n, rfl⟩ : ∃ n : Nat, a = n := ⟨a.toNat, by omega⟩
        have hn : n < l.length := by omega
        obtain ⟨b1, o1, rfl, c1⟩ := HD.out n _ (pr_get H0.out hn)
        by_cases hp : (n : Int) ≤ (brsOf l).pr n
        · obtain ⟨j, hj, h1, h2⟩ := inside_pair H0.out hn hp
          have HR := Lib.hid (insideRes_yes H0.out hn hj h1)
          obtain ⟨b, off, rfl, -⟩ := (hh.below HB.out) 0 _ (List.getElem?_eq_getElem (show 0 < l.length by omega))
          have HT := Lib.hid ((hh.below HB.out).seg (n + 1) j)
          have hsl := Lib.hid (seg_len (l := l) (a := n + 1) (b := j) (by omega))
          rw [hj] at c1 hp
          have e0 : ¬ (n : Int) < 0 := by omega
          have e1 : (n : Int) + 1 ≤ (j : Int) := by omega
          have e2 : (j : Int) ≤ (c : Int) := by omega
          have e3 : ¬ (j : Int) < (n : Int) := by omega
          have e4 : (0 : Int) ≤ (n : Int) + 1 := by omega
          have e5 : ((n : Int) + 1).toNat = n + 1 := by omega
          have e6 : ((j : Int) - ((n : Int) + 1)).toNat = j - (n + 1) := by omega
          have e7 : ((c : Int) - ((n : Int) + 1)).toNat = c - (n + 1) := by omega
          have e8 : IntKind.i64.wrap ((n : Int) + 1) = (n : Int) + 1 := by rw [IntWalk.i64_in] <;> omega
          have e9 : ¬ c = n + 1 := by omega
          clear hj ha0 hh
          go_wp2_with fail
          go_ret2
          exact TellsT.mk _ _ _ (by rw [HR.out]; exact hsl.out.symm) (by rw [HR.out]) (by rw [HR.out]; exact HT.out) HB.out
        · have HR := Lib.hid (insideRes_no (l := l) (a := n) H0.out (by rw [Int.toNat_natCast]; omega))
          have e0 : ¬ (n : Int) < 0 := by omega
          have e3 : (brsOf l).pr n < (n : Int) := by omega
          generalize (brsOf l).pr n = p at *
          clear ha0 hp
          go_wp2_with fail
          go_ret2
          exact TellsT.mk none 0 0 (by rw [HR.out]; rfl) (by rw [HR.out]) (by rw [HR.out]; exact HoldsT.nil _ _) HB.out
      · have HR := Lib.hid (insideRes_no (l := l) (a := a) H0.out (by omega))
        have e1 : (l.length : Int) ≤ a := by omega
        clear ha1
        go_wp2_with fail
        go_ret2
        exact TellsT.mk none 0 0 (by rw [HR.out]; rfl) (by rw [HR.out]) (by rw [HR.out]; exact HoldsT.nil _ _) HB.out
  · have q1 : (codeOf l == 0) = false := by simpa using h0
    have q2 : (codeOf l != 0) = true := by rw [bne, q1]; rfl
    have hd : Hid (insideRes l a = ([], codeOf l)) := Lib.hid (by unfold insideRes; rw [if_neg h0])
    clear h0
    go_wp2_with fail
    go_ret2
    exact TellsT.mk none 0 0 (by rw [hd.out]; rfl) (by rw [hd.out]) (by rw [hd.out]; exact HoldsT.nil _ _) hb1

set_option maxRecDepth 100000 in
set_option maxHeartbeats 4000000 in
theorem parts_any (A B : Option Addr) (c d : Nat) (l m : List (List Tok)) (w : World) (hl : l.length ≤ 1000000) (hm : m.length ≤ 1000000) (hA : HoldsTT w A l) (hB : HoldsTT w B m)
    (hl2 : ∀ p ∈ l, p.length ≤ 1000000) (hm2 : ∀ p ∈ m, p.length ≤ 1000000) :
    Calls Tryd.prog 23 #[.slice A l.length c, .slice B m.length d] w fun r w' => r = .returned (.bool (decide (l = m))) ∧ ∃ n, w' = w.drewN n := by
  have HS := Lib.hid same_any
  by_cases hlen : l.length = m.length
  · have Hall : Hid (l.take l.length = m.take l.length → l = m) := Lib.hid (by
      intro h
      rw [List.take_of_length_le (Nat.le_refl _), List.take_of_length_le (by omega)] at h
      exact h)
    have hq : (l.length : Int) = (m.length : Int) := by omega
    go_enter Tryd.func23, Tryd.ntmps23
    go_wp2
    go_loopw [5] (fun i wr => ∃ k : Nat, k ≤ l.length ∧ i = .int .i64 k ∧ l.take k = m.take k ∧ ∃ n, wr = w.drewN n) (fun i _ => l.length - (intOf i).toNat)
    case atStart => exact ⟨0, by omega, rfl, by simp, 0, rfl⟩
    case round =>
      obtain ⟨k, hk, rfl, hr, n, rfl⟩ := hrel
      by_cases hlt : k < l.length
      · have hlt2 : k < m.length := by omega
        obtain ⟨b1, o1, B1, c1, rfl, f1, f2, f3⟩ := hA k l[k] (List.getElem?_eq_getElem hlt)
        obtain ⟨b2, o2, B2, c2, rfl, g1, g2, g3⟩ := hB k m[k] (List.getElem?_eq_getElem hlt2)
        have m1 := hl2 l[k] (List.getElem_mem hlt)
        have m2 := hm2 m[k] (List.getElem_mem hlt2)
        have Hs : Hid (l[k] = m[k] → l.take (k + 1) = m.take (k + 1)) := Lib.hid (fun h => by rw [List.take_succ_eq_append_getElem hlt, List.take_succ_eq_append_getElem hlt2, hr, h])
        have Hn : Hid (l[k] ≠ m[k] → l ≠ m) := Lib.hid (fun h e => h (by subst e; rfl))
        clear hr
        generalize l[k] = x at *
        generalize m[k] = y at *
        have HS1 := Lib.hid (fun nn => HS.out B1 B2 c1 c2 x y (w.drewN nn) m1 m2 (f3.drewN nn) (g3.drewN nn))
        have lt2 : (k : Int) < (m.length : Int) := by omega
        clear hq hlen
        cases hxy : decide (x = y) with
        | true =>
          rw [hxy] at HS1
          have Hz := Lib.hid (Hs.out (by simpa using hxy))
          clear Hs Hn hxy f3 g3 m1 m2
          go_wp2
          refine wp_region_ord (S := fun w' => w'.cell? ⟨b1, o1 + k, none⟩ = some (.slice B1 x.length c1) ∧ w'.cell? ⟨b2, o2 + k, none⟩ = some (.slice B2 y.length c2)) [0, 1, 2, 3, 4, 5, 6, 7] [8, 9] (by kernel_rfl) (by kernel_rfl) (fun _ _ _ _ _ h => h) ⟨f1, g1⟩ ?_
          simp only [pick, List.filterMap_cons, List.filterMap_nil, List.getElem?_toArray, List.getElem?_cons_zero, List.getElem?_cons_succ]
          repeat (refine wpHead_step (v := ?_) rfl ?_ ?_; rotate_left; (focus (rintro w1 ⟨f1, g1⟩; go_simp; try with_reducible rfl)); simp only [Act.put, List.setIfInBounds_toArray, List.set_cons_zero, List.set_cons_succ])
          refine wpHead_nil ?_
          refine wpTail_step rfl (fun K hK => ?_)
          go_wp2_with fail
          refine (HS1.out (n + 1)).mono ?_
          rintro r w2 ⟨rfl, n2, rfl⟩
          go_wp2_with fail
          refine hK _ _ ⟨f1, g1⟩ ?_
          clear hK K
          try simp only [Act.put, List.setIfInBounds_toArray, List.set_cons_zero, List.set_cons_succ]
          refine wpTail_step rfl (fun K hK => ?_)
          go_wp2_with fail
          refine hK _ _ ⟨f1, g1⟩ ?_
          clear hK K
          try simp only [Act.put, List.setIfInBounds_toArray, List.set_cons_zero, List.set_cons_succ]
          refine wpTail_nil ?_
          go_wp2_with fail
          go_roundw
          case rel => exact ⟨k + 1, by omega, by go_num, Hz.out, n + 1 + n2, by simp [World.drewN, Nat.add_assoc]⟩
          case measure => simp [intOf]; omega
        | false =>
          rw [hxy] at HS1
          have Hz := Lib.hid (Hn.out (by simpa using hxy))
          clear Hs Hn hxy f3 g3 m1 m2
          go_wp2
          refine wp_region_ord (S := fun w' => w'.cell? ⟨b1, o1 + k, none⟩ = some (.slice B1 x.length c1) ∧ w'.cell? ⟨b2, o2 + k, none⟩ = some (.slice B2 y.length c2)) [0, 1, 2, 3, 4, 5, 6, 7] [8, 9] (by kernel_rfl) (by kernel_rfl) (fun _ _ _ _ _ h => h) ⟨f1, g1⟩ ?_
          simp only [pick, List.filterMap_cons, List.filterMap_nil, List.getElem?_toArray, List.getElem?_cons_zero, List.getElem?_cons_succ]
          repeat (refine wpHead_step (v := ?_) rfl ?_ ?_; rotate_left; (focus (rintro w1 ⟨f1, g1⟩; go_simp; try with_reducible rfl)); simp only [Act.put, List.setIfInBounds_toArray, List.set_cons_zero, List.set_cons_succ])
          refine wpHead_nil ?_
          refine wpTail_step rfl (fun K hK => ?_)
          go_wp2_with fail
          refine (HS1.out (n + 1)).mono ?_
          rintro r w2 ⟨rfl, n2, rfl⟩
          go_wp2_with fail
          refine hK _ _ ⟨f1, g1⟩ ?_
          clear hK K
          try simp only [Act.put, List.setIfInBounds_toArray, List.set_cons_zero, List.set_cons_succ]
          refine wpTail_step rfl (fun K hK => ?_)
          go_wp2_with fail
          refine hK _ _ ⟨f1, g1⟩ ?_
          clear hK K
          try simp only [Act.put, List.setIfInBounds_toArray, List.set_cons_zero, List.set_cons_succ]
          refine wpTail_nil ?_
          go_wp2_with fail
          go_ret
          exact ⟨by simp [Hz.out], n + 1 + n2, by simp [World.drewN, Nat.add_assoc]⟩
      · obtain rfl : k = l.length := by omega
        have Hz := Lib.hid (Hall.out hr)
        clear hr
        go_wp2
        go_ret
        exact ⟨by simp [Hz.out], _, rfl⟩
  · have hq : ¬ (l.length : Int) = (m.length : Int) := by omega
    have hne : l ≠ m := fun e => hlen (by rw [e])
    have Hne := Lib.hid hne
    have q1 : ((l.length : Int) == (m.length : Int)) = false := by simpa using hq
    have q2 : ((l.length : Int) != (m.length : Int)) = true := by rw [bne, q1]; rfl
    clear hne hlen
    go_enter Tryd.func23, Tryd.ntmps23
    go_wp2
    go_ret
    exact ⟨by simp [Hne.out], 0, rfl⟩
end Go.Proofs.YtlokkdbgihbnhaaDoor
