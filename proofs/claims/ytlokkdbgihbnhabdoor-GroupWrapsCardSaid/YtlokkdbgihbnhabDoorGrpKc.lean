/-
  Insides, by the program.
-/
import Derived.Test.YtlokkdbgihbnhabDoorProg
import Derived.Test.YtlokkdbgihbnhabDoorReg
import Derived.WalkKit
import Derived.WalkSpells
import Derived.WalkLawsBesides
import Derived.Lib.Hide
import Derived.Lib.MinMax
import Derived.Deep.QuietTactic
import Derived.BigQuiet
import Derived.OwnWalk
import Derived.Deep.AppendLies
import Derived.KernelRfl
import Derived.Laws.Rows
import Derived.Test.YtlokkdbgihbnhabDoorRegG
import Derived.Test.YtlokkdbgihbnhabDoorGrpKb
set_option linter.unusedSimpArgs false
set_option linter.unusedVariables false
namespace Go.Proofs.YtlokkdbgihbnhabDoor
open Go Go.RowKit

set_option maxRecDepth 100000 in
set_option maxHeartbeats 8000000 in
theorem ginside_any (A : Option Addr) (c : Nat) (l : List Tok) (at_ : Int) (w : World) (hl : mildT l) (hc : l.length ≤ c) (hh : HoldsT w A l) (hg : Listed w) :
    Calls Tryd.prog 7 #[.slice A l.length c, .int .i64 at_] w (TellsT w (insideRes l at_).1 (insideRes l at_).2) := by
  obtain ⟨bq, he⟩ := hg.err
  have HM := Lib.hid (fun u hu hv => match_any A c l bq u hl hu hv)
  obtain ⟨hl1, hl2⟩ := hl
  have HCl := Lib.hid clone_any
  go_enter Tryd.func7, Tryd.ntmps7
  go_wp2_with fail
  refine (HM.out _ hh he).mono ?_
  rintro e w1 ⟨a, dv, pv, ev, rfl, hb1, c2, c4, ⟨h0, rfl, ⟨P, cp, rfl, hP⟩, -⟩ | ⟨h0, p, v, rfl, hv⟩⟩
  · have HB := Lib.hid hb1
    have H0 := Lib.hid h0
    have HP := Lib.hid hP
    clear hb1 h0 HM hP
    by_cases ha0 : at_ < 0
    · have HR := Lib.hid (insideRes_no (l := l) (a := at_) H0.out (by omega))
      go_wp2_with fail
      go_ret2
      exact TellsT.mk none 0 0 (by rw [HR.out]; rfl) (by rw [HR.out]) (by rw [HR.out]; exact HoldsT.nil _ _) HB.out
    · by_cases ha1 : at_ < l.length
      · obtain ⟨n, rfl⟩ : ∃ n : Nat, at_ = n := ⟨at_.toNat, by omega⟩
        have hn : n < l.length := by omega
        obtain ⟨b1, o1, rfl, c1⟩ := HP.out n _ (pr_get H0.out hn)
        by_cases hp : (n : Int) ≤ (brsOf l).pr n
        · obtain ⟨j, hj, h1, h2⟩ := inside_pair H0.out hn hp
          have HR := Lib.hid (insideRes_yes H0.out hn hj h1)
          obtain ⟨b, off, rfl, -⟩ := (hh.below HB.out) 0 _ (List.getElem?_eq_getElem (show 0 < l.length by omega))
          have HT := Lib.hid ((hh.below HB.out).seg (n + 1) j)
          have hsl := Lib.hid (seg_len (l := l) (a := n + 1) (b := j) (by omega))
          rw [hj] at c1 hp
          have e0 : ¬ (n : Int) < 0 := by omega
          have e1 : (n : Int) + 1 ≤ (j : Int) := by omega
          have e2 : (j : Int) ≤ (c : Int) := by omega
          have e3 : ¬ (j : Int) < (n : Int) := by omega
          have e4 : (0 : Int) ≤ (n : Int) + 1 := by omega
          have e5 : ((n : Int) + 1).toNat = n + 1 := by omega
          have e6 : ((j : Int) - ((n : Int) + 1)).toNat = j - (n + 1) := by omega
          have e8 : IntKind.i64.wrap ((n : Int) + 1) = (n : Int) + 1 := by rw [IntWalk.i64_in] <;> omega
          have f0 : decide ((n : Int) < 0) = false := by rw [decide_eq_false_iff_not]; omega
          have f1 : decide (l.length ≤ n) = false := by rw [decide_eq_false_iff_not]; omega
          have f2 : decide (j < n) = false := by rw [decide_eq_false_iff_not]; omega
          have f3 : decide ((l.length : Int) ≤ (n : Int)) = false := by rw [decide_eq_false_iff_not]; omega
          have f4 : decide ((j : Int) < (n : Int)) = false := by rw [decide_eq_false_iff_not]; omega
          clear hj ha0 hh
          by_cases hjn : j = n + 1
          · have HC1 := Lib.hid (fun u => HCl.out (some ⟨b, off, none⟩) 0 [] u (by simp) (HoldsT.nil _ _))
            simp only [List.length_nil] at HC1
            have hs0 : Hid (seg l (n + 1) j = []) := Lib.hid (List.eq_nil_of_length_eq_zero (by rw [hsl.out]; omega))
            have e9 : j - (n + 1) = 0 := by omega
            have e10 : n + 1 = j := hjn.symm
            rw [e9] at e6
            clear hjn
            go_wp2_with fail
            refine wp_region_ord (S := fun w' => w'.cell? ⟨a, 2, none⟩ = some (.slice (some ⟨b1, o1, none⟩) l.length cp) ∧ w'.cell? ⟨b1, o1 + n, none⟩ = some (.int .i64 (j : Int))) [0, 1, 2, 3, 4, 5, 6, 7, 8, 9, 10, 11, 12, 13, 14, 15, 16, 17] [18, 19, 20] (by kernel_rfl) (by kernel_rfl) (fun _ _ _ _ _ h => h) ⟨c2, c1⟩ ?_
            simp only [pick, List.filterMap_cons, List.filterMap_nil, List.getElem?_toArray, List.getElem?_cons_zero, List.getElem?_cons_succ]
            repeat (refine wpHead_step (v := ?_) rfl ?_ ?_; rotate_left; (focus (rintro w1 ⟨c2, c1⟩; go_simp; try with_reducible rfl)); simp only [Act.put, List.setIfInBounds_toArray, List.set_cons_zero, List.set_cons_succ])
            refine wpHead_nil ?_
            refine wpTail_step rfl (fun K hK => ?_)
            go_wp2_with fail
            refine (HC1.out _).mono ?_
            rintro r w3 ⟨v, rfl, hv, hb⟩
            obtain ⟨A6, c6, rfl⟩ := owns_slice hv
            have c2' := (hb.cell (p := ⟨a, 2, none⟩) (by have := cell_lt c2; simpa using this)).trans c2
            have c1' := (hb.cell (p := ⟨b1, o1 + n, none⟩) (by have := cell_lt c1; simpa using this)).trans c1
            have hb3 : Hid (Below w.heap.size w w3) := Lib.hid (HB.out.drew.trans (hb.mono HB.out.size))
            clear hb
            go_wp2_with fail
            refine hK _ _ ⟨c2', c1'⟩ ?_
            clear hK K
            try simp only [Act.put, List.setIfInBounds_toArray, List.set_cons_zero, List.set_cons_succ]
            refine wpTail_step rfl (fun K hK => ?_)
            go_wp2_with fail
            refine hK _ _ ⟨c2', c1'⟩ ?_
            clear hK K
            try simp only [Act.put, List.setIfInBounds_toArray, List.set_cons_zero, List.set_cons_succ]
            refine wpTail_step rfl (fun K hK => ?_)
            go_wp2_with fail
            refine hK _ _ ⟨c2', c1'⟩ ?_
            clear hK K
            try simp only [Act.put, List.setIfInBounds_toArray, List.set_cons_zero, List.set_cons_succ]
            refine wpTail_nil ?_
            go_wp2_with fail
            go_ret2
            obtain ⟨B9, c9, e9, hn9, hH, _⟩ := holdsT_of_own hv
            injection e9 with e9a _ _
            subst e9a
            exact TellsT.mk _ _ _ (by rw [HR.out, hs0.out]; rfl) (by rw [HR.out]) (by rw [HR.out, hs0.out]; exact hH) hb3.out
          · have HC1 := Lib.hid (fun u hu => HCl.out (some ⟨b, off + (n + 1) * 3, none⟩) (j - (n + 1)) (seg l (n + 1) j) u (by rw [hsl.out]; omega) hu)
            rw [hsl.out] at HC1
            have HC1 := Lib.hid (HC1.out w1.drew HT.out)
            go_wp2_with fail
            refine wp_region_ord (S := fun w' => w'.cell? ⟨a, 2, none⟩ = some (.slice (some ⟨b1, o1, none⟩) l.length cp) ∧ w'.cell? ⟨b1, o1 + n, none⟩ = some (.int .i64 (j : Int))) [0, 1, 2, 3, 4, 5, 6, 7, 8, 9, 10, 11, 12, 13, 14, 15, 16, 17] [18, 19, 20] (by kernel_rfl) (by kernel_rfl) (fun _ _ _ _ _ h => h) ⟨c2, c1⟩ ?_
            simp only [pick, List.filterMap_cons, List.filterMap_nil, List.getElem?_toArray, List.getElem?_cons_zero, List.getElem?_cons_succ]
            repeat (refine wpHead_step (v := ?_) rfl ?_ ?_; rotate_left; (focus (rintro w1 ⟨c2, c1⟩; go_simp; try with_reducible rfl)); simp only [Act.put, List.setIfInBounds_toArray, List.set_cons_zero, List.set_cons_succ])
            refine wpHead_nil ?_
            refine wpTail_step rfl (fun K hK => ?_)
            go_wp2_with fail
            refine (HC1.out).mono ?_
            rintro r w3 ⟨v, rfl, hv, hb⟩
            obtain ⟨A6, c6, rfl⟩ := owns_slice hv
            have c2' := (hb.cell (p := ⟨a, 2, none⟩) (by have := cell_lt c2; simpa using this)).trans c2
            have c1' := (hb.cell (p := ⟨b1, o1 + n, none⟩) (by have := cell_lt c1; simpa using this)).trans c1
            have hb3 : Hid (Below w.heap.size w w3) := Lib.hid (HB.out.drew.trans (hb.mono HB.out.size))
            clear hb
            go_wp2_with fail
            refine hK _ _ ⟨c2', c1'⟩ ?_
            clear hK K
            try simp only [Act.put, List.setIfInBounds_toArray, List.set_cons_zero, List.set_cons_succ]
            refine wpTail_step rfl (fun K hK => ?_)
            go_wp2_with fail
            refine hK _ _ ⟨c2', c1'⟩ ?_
            clear hK K
            try simp only [Act.put, List.setIfInBounds_toArray, List.set_cons_zero, List.set_cons_succ]
            refine wpTail_step rfl (fun K hK => ?_)
            go_wp2_with fail
            refine hK _ _ ⟨c2', c1'⟩ ?_
            clear hK K
            try simp only [Act.put, List.setIfInBounds_toArray, List.set_cons_zero, List.set_cons_succ]
            refine wpTail_nil ?_
            go_wp2_with fail
            go_ret2
            obtain ⟨B9, c9, e9, hn9, hH, _⟩ := holdsT_of_own hv
            injection e9 with e9a _ _
            subst e9a
            exact TellsT.mk _ _ _ (by rw [HR.out]; exact hsl.out.symm) (by rw [HR.out]) (by rw [HR.out]; exact hH) hb3.out
        · have HR := Lib.hid (insideRes_no (l := l) (a := n) H0.out (by rw [Int.toNat_natCast]; omega))
          have e0 : ¬ (n : Int) < 0 := by omega
          have e3 : (brsOf l).pr n < (n : Int) := by omega
          generalize (brsOf l).pr n = p at *
          clear ha0 hp
          go_wp2_with fail
          go_ret2
          exact TellsT.mk none 0 0 (by rw [HR.out]; rfl) (by rw [HR.out]) (by rw [HR.out]; exact HoldsT.nil _ _) HB.out
      · have HR := Lib.hid (insideRes_no (l := l) (a := at_) H0.out (by omega))
        have e1 : (l.length : Int) ≤ at_ := by omega
        clear ha1
        go_wp2_with fail
        go_ret2
        exact TellsT.mk none 0 0 (by rw [HR.out]; rfl) (by rw [HR.out]) (by rw [HR.out]; exact HoldsT.nil _ _) HB.out
  · have hd : Hid (insideRes l at_ = ([], codeOf l)) := Lib.hid (by unfold insideRes; rw [if_neg h0])
    have hgt := (hg.below hb1).type_
    have HT := Lib.hid (told_any (codeOf l) p v hv w1 hgt)
    clear h0
    go_wp2_with fail
    refine HT.out.mono ?_
    rintro e w2 ⟨rfl, hb2⟩
    go_wp2_with fail
    go_ret2
    exact TellsT.mk none 0 0 (by rw [hd.out]; rfl) (by rw [hd.out]) (by rw [hd.out]; exact HoldsT.nil _ _) (hb1.trans (hb2.mono hb1.size))
end Go.Proofs.YtlokkdbgihbnhabDoor
