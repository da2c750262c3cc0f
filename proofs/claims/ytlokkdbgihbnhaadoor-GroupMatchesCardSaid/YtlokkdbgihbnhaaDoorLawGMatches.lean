/-
  The law GroupMatches: true.
-/
import Derived.Test.YtlokkdbgihbnhaaDoorProg
import Derived.Test.YtlokkdbgihbnhaaDoorReg
import Derived.WalkKit
import Derived.WalkSpells
import Derived.WalkLawsBesides
import Derived.Lib.Hide
import Derived.Lib.MinMax
import Derived.Deep.QuietTactic
import Derived.BigQuiet
import Derived.OwnWalk
import Derived.Deep.AppendLies
import Derived.KernelRfl
import Derived.Laws.Rows
import Derived.Test.YtlokkdbgihbnhaaDoorRegG
import Derived.Test.YtlokkdbgihbnhaaDoorGrpSh
import Derived.Test.YtlokkdbgihbnhaaDoorGrpRa
set_option linter.unusedSimpArgs false
set_option linter.unusedVariables false
namespace Go.Proofs.YtlokkdbgihbnhaaDoor
open Go Go.RowKit

set_option maxRecDepth 100000 in
set_option maxHeartbeats 8000000 in
theorem groupMatches_any (A : Option Addr) (c : Nat) (l0 : List Tok) (g : ByteArray) (w : World) (hl0 : l0.length ≤ maxLen) (hs0 : ∀ (k : Nat) (x : Tok), l0[k]? = some x → x.text.size ≤ maxLen ∧ x.glyph.size ≤ maxLen) (hh0 : HoldsT w A l0) (hg0 : Listed w) :
    Calls Tryd.prog 3 #[.slice A l0.length c, .string g] w fun e w' => e = .returned (.bool true) ∧ Below w.heap.size w w' := by
  have HSh := Lib.hid (shown_any w hg0)
  have HF := Lib.hid (fun u hu => few_any A c l0 u hl0 hs0 hu)
  have HI := Lib.hid (fun x u => isSign_any x g u)
  have HR := Lib.hid (fun x u => rIsSign_any x g u)
  go_enter Tryd.func3, Tryd.ntmps3
  go_wp2_with fail
  refine HSh.out.mono ?_
  rintro e w1 ⟨rfl, hb1⟩
  have hh1 := hh0.below hb1
  have hg1 := hg0.below hb1
  clear HSh
  go_wp2_with fail
  refine (HF.out _ hh1).mono ?_
  rintro e w2 ⟨B, d, rfl, hT2, hd, hb2⟩
  have hm := mild_few l0
  have hb12 := hb1.trans (hb2.mono hb1.size)
  have hg2 := hg1.below hb2
  generalize few l0 = l at *
  clear HF hb1 hb2 hh1 hg1 hs0
  have H1 := Lib.hid (gmatch_any B d l w2 hm hT2 hg2)
  go_wp2_with fail
  refine H1.out.mono ?_
  rintro e w3 ⟨B3, d3, rfl, hm3, hb3⟩
  have hT3 := hT2.below hb3
  have hg3 := hg2.below hb3
  have hb13 := hb12.trans (hb3.mono hb12.size)
  clear H1 hb12 hb3 hT2 hg2
  have H2 := Lib.hid (rmatch_any B d l w3 hm hT3)
  go_wp2_with fail
  refine H2.out.mono ?_
  rintro e w4 ⟨B4, d4, rfl, hm4, hb4⟩
  have hT4 := hT3.below hb4
  have hg4 := hg3.below hb4
  have hm34 := hm3.below hb4
  have hb14 := hb13.trans (hb4.mono hb13.size)
  clear H2 hb13 hb4 hT3 hg3 hm3
  have H3 := Lib.hid (gdeep_any B d l w4 hm hT4 hg4)
  go_wp2_with fail
  refine H3.out.mono ?_
  rintro e w5 ⟨B5, d5, rfl, hm5, hb5⟩
  have hT5 := hT4.below hb5
  have hm35 := hm34.below hb5
  have hm45 := hm4.below hb5
  have hb15 := hb14.trans (hb5.mono hb14.size)
  clear H3 hb14 hb5 hT4 hg4 hm34 hm4
  have H4 := Lib.hid (rdeep_any B d l w5 hm hT5)
  go_wp2_with fail
  refine H4.out.mono ?_
  rintro e w6 ⟨B6, d6, rfl, hm6, hb6⟩
  have hT6 := Lib.hid (hT5.below hb6)
  have hm36 := Lib.hid (hm35.below hb6)
  have hm46 := Lib.hid (hm45.below hb6)
  have hm56 := Lib.hid (hm5.below hb6)
  have hm66 := Lib.hid hm6
  have hb16 := Lib.hid (hb15.trans (hb6.mono hb15.size))
  clear H4 hb15 hb6 hT5 hm35 hm45 hm5 hm6
  have hml := Lib.hid (show (matchOf l).length ≤ 1000 by
    unfold matchOf
    split
    · rename_i h; rw [(brsOf_len h).1]; exact hm.1
    · simp)
  have hdl := Lib.hid (show (deepOf l).length ≤ 1000 by
    unfold deepOf
    split
    · rename_i h; rw [List.length_map, (brsOf_len h).2]; exact hm.1
    · simp)
  have hl1 := hm.1
  go_wp2_with fail
  go_loopw [14] (fun i wr => ∃ k : Nat, k ≤ l.length ∧ i = .int .i64 k ∧ Below w6.heap.size w6 wr) (fun i _ => l.length - (intOf i).toNat)
  case atStart => exact ⟨0, by omega, rfl, Below.refl _ _⟩
  case round =>
    obtain ⟨k, hk, rfl, hlow⟩ := hrel
    by_cases hlt : k < l.length
    · obtain ⟨b, off, rfl, c1, c2, c3⟩ := (hT6.out.below hlow) k l[k] (List.getElem?_eq_getElem hlt)
      generalize l[k] = x at *
      have HI1 := Lib.hid (HI.out x)
      have HR1 := Lib.hid (HR.out x)
      unfold Tok.val at HI1 HR1
      generalize x.isSign g = sg at *
      have Hlow := Lib.hid hlow
      have hsz := hlow.size
      clear hlow
      go_wp2_with fail
      refine wp_region_ord (S := fun w' => w'.cell? ⟨b, off + k * 3, none⟩ = some (.int .i64 x.kind) ∧ w'.cell? ⟨b, off + k * 3 + 1, none⟩ = some (.string x.text) ∧ w'.cell? ⟨b, off + k * 3 + 2, none⟩ = some (.string x.glyph)) [0, 1, 2, 3, 4, 6, 7, 8, 9, 10] [5, 11, 12] (by kernel_rfl) (by kernel_rfl) (fun _ _ _ _ _ h => h) ⟨c1, c2, c3⟩ ?_
      simp only [pick, List.filterMap_cons, List.filterMap_nil, List.getElem?_toArray, List.getElem?_cons_zero, List.getElem?_cons_succ]
      repeat (refine wpHead_step (v := ?_) rfl ?_ ?_; rotate_left; (focus (rintro w1 ⟨c1, c2, c3⟩; go_simp; try with_reducible rfl)); simp only [Act.put, List.setIfInBounds_toArray, List.set_cons_zero, List.set_cons_succ])
      refine wpHead_nil ?_
      refine wpTail_step rfl (fun K hK => ?_)
      go_wp2_with fail
      refine (HI1.out _).mono ?_
      rintro e w7 ⟨rfl, hb7⟩
      have kc7 : ∀ {b o : Nat} {v : Value}, wr.cell? ⟨b, o, none⟩ = some v → w7.cell? ⟨b, o, none⟩ = some v := fun h => (hb7.cell (p := ⟨_, _, none⟩) (by have := cell_lt h; simpa using this)).trans h
      have e1 := kc7 c1
      have e2 := kc7 c2
      have e3 := kc7 c3
      have hl7 := Hlow.out.drew.trans (hb7.mono Hlow.out.size)
      go_wp2_with fail
      refine hK _ _ ⟨e1, e2, e3⟩ ?_
      clear hK K
      try simp only [Act.put, List.setIfInBounds_toArray, List.set_cons_zero, List.set_cons_succ]
      refine wpTail_step rfl (fun K hK => ?_)
      go_wp2_with fail
      refine (HR1.out _).mono ?_
      rintro e w8 ⟨rfl, hb8⟩
      have kc8 : ∀ {b o : Nat} {v : Value}, w7.cell? ⟨b, o, none⟩ = some v → w8.cell? ⟨b, o, none⟩ = some v := fun h => (hb8.cell (p := ⟨_, _, none⟩) (cell_lt h)).trans h
      have g1 := kc8 e1
      have g2 := kc8 e2
      have g3 := kc8 e3
      have hl8 := Lib.hid (hl7.trans (hb8.mono hl7.size))
      have q : (sg != sg) = false := by cases sg <;> rfl
      clear kc7 kc8 hb7 hb8 hl7 HI1 HR1
      go_wp2_with fail
      refine hK _ _ ⟨g1, g2, g3⟩ ?_
      clear hK K
      try simp only [Act.put, List.setIfInBounds_toArray, List.set_cons_zero, List.set_cons_succ]
      refine wpTail_step rfl (fun K hK => ?_)
      go_wp2_with fail
      refine hK _ _ ⟨g1, g2, g3⟩ ?_
      clear hK K
      try simp only [Act.put, List.setIfInBounds_toArray, List.set_cons_zero, List.set_cons_succ]
      refine wpTail_nil ?_
      go_wp2_with fail
      go_roundw
      case rel => exact ⟨k + 1, by omega, by go_num, hl8.out⟩
      case measure => simp [intOf]; omega
    · obtain rfl : k = l.length := by omega
      have HI1 : Hid (Calls Tryd.prog 17 #[.slice B3 (matchOf l).length d3, .slice B4 (matchOf l).length d4] wr fun r w' => r = .returned (.bool true) ∧ ∃ n, w' = wr.drewN n) :=
        Lib.hid (by simpa using ints_any B3 B4 d3 d4 (matchOf l) (matchOf l) wr hml.out hml.out (hm36.out.below hlow) (hm46.out.below hlow))
      have HI2 : Hid (∀ n, Calls Tryd.prog 17 #[.slice B5 (deepOf l).length d5, .slice B6 (deepOf l).length d6] (wr.drewN n) fun r w' => r = .returned (.bool true) ∧ ∃ m, w' = (wr.drewN n).drewN m) :=
        Lib.hid (fun n => by simpa using ints_any B5 B6 d5 d6 (deepOf l) (deepOf l) (wr.drewN n) hdl.out hdl.out ((hm56.out.below hlow).drewN n) ((hm66.out.below hlow).drewN n))
      have Hlow := Lib.hid (hb16.out.trans (hlow.mono hb16.out.size))
      have q : (codeOf l == codeOf l) = true := by simp
      clear hlow
      generalize codeOf l = cd at *
      go_wp2_with fail
      refine HI1.out.mono ?_
      rintro e w7 ⟨rfl, n7, rfl⟩
      go_wp2_with fail
      refine (HI2.out n7).mono ?_
      rintro e w8 ⟨rfl, n8, rfl⟩
      go_wp2_with fail
      go_ret
      exact ⟨rfl, below_drewN Hlow.out _⟩
end Go.Proofs.YtlokkdbgihbnhaaDoor
