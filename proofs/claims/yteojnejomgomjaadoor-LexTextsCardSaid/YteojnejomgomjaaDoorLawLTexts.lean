/-
  The law LexTexts: true.
-/
import Derived.Test.YteojnejomgomjaaDoorProg
import Derived.Test.YteojnejomgomjaaDoorReg
import Derived.WalkKit
import Derived.WalkSpells
import Derived.WalkLawsBesides
import Derived.Lib.Hide
import Derived.Lib.MinMax
import Derived.Deep.QuietTactic
import Derived.BigQuiet
import Derived.OwnWalk
import Derived.Deep.AppendLies
import Derived.KernelRfl
import Derived.Test.YteojnejomgomjaaDoorLxLo
set_option linter.unusedSimpArgs false
set_option linter.unusedVariables false
namespace Go.Proofs.YteojnejomgomjaaDoor
open Go.RowKit Go.Maps

theorem textOf_size : ∀ (l : List Tok) (m : Nat), (∀ x ∈ l, x.text.size ≤ m) → (textOf l).size ≤ m * l.length
  | [], m, _ => by simp [textOf]
  | x :: l, m, h => by
    have h1 := h x List.mem_cons_self
    have h2 := textOf_size l m (fun y hy => h y (List.mem_cons_of_mem _ hy))
    rw [textOf_cons, ByteArray.size_append, List.length_cons, Nat.mul_add, Nat.mul_one]
    omega
theorem few_texts (l : List Tok) : ∀ x ∈ few l, x.text.size ≤ 300 := by
  intro x hx
  unfold few fewTo at hx
  obtain ⟨y, _, rfl⟩ := List.mem_map.1 hx
  exact cut_len _
theorem few_textOf (l : List Tok) : (textOf (few l)).size ≤ 1000000 := by
  have h1 := textOf_size (few l) 300 (few_texts l)
  have h2 := few_len l
  omega

set_option maxRecDepth 100000 in
set_option maxHeartbeats 8000000 in
theorem lexTexts_any (l0 m0 : List Tok) (A C : Option Addr) (c d : Nat) (w : World) (hA : HoldsT w A l0) (hC : HoldsT w C m0) (hl : l0.length ≤ maxLen) (hm : m0.length ≤ maxLen)
    (h1 : ∀ (k : Nat) (x : Tok), l0[k]? = some x → x.text.size ≤ maxLen ∧ x.glyph.size ≤ maxLen) (h2 : ∀ (k : Nat) (x : Tok), m0[k]? = some x → x.text.size ≤ maxLen ∧ x.glyph.size ≤ maxLen) (hT : Tabs w) :
    Calls Tryd.prog 8 #[.slice A l0.length c, .slice C m0.length d] w fun e w' => e = .returned (.bool true) ∧ Below w.heap.size w w' := by
  have HS := Lib.hid (shown_any w hT)
  have HF := Lib.hid (fun u hu => few_any A c l0 u hl h1 hu)
  have HG := Lib.hid (fun u hu => few_any C d m0 u hm h2 hu)
  clear h1 h2
  go_enter Tryd.func8, Tryd.ntmps8
  go_wp2_with fail
  refine HS.out.mono ?_
  rintro e w1 ⟨rfl, hb1⟩
  have hA1 := hA.below hb1
  have hC1 := hC.below hb1
  have B1 := Lib.hid hb1
  clear HS hA hC hb1
  go_wp2_with fail
  refine (HF.out _ hA1).mono ?_
  rintro e w2 ⟨A2, c2, rfl, hA2, q2, hb2⟩
  have hC2 := hC1.below hb2
  have B2 := Lib.hid (B1.out.trans (hb2.mono B1.out.size))
  have ll := few_len l0
  have lt := few_textOf l0
  clear HF hA1 hC1 hb2 B1
  generalize few l0 = l at *
  go_wp2_with fail
  refine (HG.out _ hC2).mono ?_
  rintro e w3 ⟨C3, d3, rfl, hC3, q3, hb3⟩
  have hA3 := hA2.below hb3
  have B3 := Lib.hid (B2.out.trans (hb3.mono B2.out.size))
  have lm := few_len m0
  clear HG hA2 hC2 hb3 B2 hl hm
  generalize few m0 = m at *
  have HTx : Hid (∀ W, HoldsT W A2 l → Calls Tryd.prog 17 #[.slice A2 l.length c2] W fun e w' => e = .returned (.string (textOf l)) ∧ Below W.heap.size W w') := Lib.hid (fun W h => Text_any l A2 c2 W (by omega) lt h)
  have HTr : Hid (∀ W, HoldsT W A2 l → Calls Tryd.prog 18 #[.slice A2 l.length c2] W fun e w' => e = .returned (.string (textOf l)) ∧ w' = W) := Lib.hid (fun W h => refText_any l A2 c2 W (by omega) lt h)
  have HPl : Hid (∀ W, HoldsT W A2 l → Calls Tryd.prog 16 #[.slice A2 l.length c2] W fun e w' => GivesT (plainT l) e W w') := Lib.hid (fun W h => PlainC l A2 c2 W (by omega) h)
  have HPr : Hid (∀ W, HoldsT W A2 l → Calls Tryd.prog 20 #[.slice A2 l.length c2] W fun e w' => GivesT (plainT l) e W w') := Lib.hid (fun W h => refPlainC l A2 c2 W (by omega) h)
  have lp := plain_len l
  have HSp : Hid (∀ W P Q pc qc, HoldsT W P (plainT l) → HoldsT W Q (plainT l) → Calls Tryd.prog 19 #[.slice P (plainT l).length pc, .slice Q (plainT l).length qc] W fun e w' => e = .returned (.bool true) ∧ Below W.heap.size W w') := Lib.hid (fun W P Q pc qc hp hq => by
    have := refSame_any (plainT l) (plainT l) P Q pc qc W (by omega) (by omega) hp hq
    simpa using this)
  have HSa : Hid (∀ W, HoldsT W A2 l → HoldsT W C3 m → Calls Tryd.prog 14 #[.slice A2 l.length c2, .slice C3 m.length d3] W fun e w' => e = .returned (.bool (decide (l = m))) ∧ Below W.heap.size W w') := Lib.hid (fun W hp hq => Same_any l m A2 C3 c2 d3 W (by omega) (by omega) hp hq)
  have HSr : Hid (∀ W, HoldsT W A2 l → HoldsT W C3 m → Calls Tryd.prog 19 #[.slice A2 l.length c2, .slice C3 m.length d3] W fun e w' => e = .returned (.bool (decide (l = m))) ∧ Below W.heap.size W w') := Lib.hid (fun W hp hq => refSame_any l m A2 C3 c2 d3 W (by omega) (by omega) hp hq)
  have HSl : Hid (∀ W, HoldsT W A2 l → Calls Tryd.prog 14 #[.slice A2 l.length c2, .slice A2 l.length c2] W fun e w' => e = .returned (.bool true) ∧ Below W.heap.size W w') := Lib.hid (fun W hp => by
    have := Same_any l l A2 A2 c2 c2 W (by omega) (by omega) hp hp
    simpa using this)
  have qt := bytes_beq_yes (rfl : textOf l = textOf l)
  have qs : (decide (l = m) == decide (l = m)) = true := by simp
  clear lt lp
  generalize textOf l = tx at *
  generalize plainT l = pl at *
  generalize decide (l = m) = sa at *
  go_wp2_with fail
  refine (HTx.out _ hA3).mono ?_
  rintro e w4 ⟨rfl, hb4⟩
  have hA4 := hA3.below hb4
  have hC4 := hC3.below hb4
  have B4 := Lib.hid (B3.out.trans (hb4.mono B3.out.size))
  clear HTx hA3 hC3 hb4 B3
  go_wp2_with fail
  refine (HTr.out _ hA4).mono ?_
  rintro e w5 ⟨rfl, rfl⟩
  clear HTr
  go_wp2_with fail
  refine (HPl.out _ hA4).mono ?_
  rintro e w6 ⟨P6, c6, rfl, hP6, _, hb6⟩
  have hA6 := hA4.below hb6
  have hC6 := hC4.below hb6
  have B6 := Lib.hid (B4.out.trans (hb6.mono B4.out.size))
  clear HPl hA4 hC4 hb6 B4
  go_wp2_with fail
  refine (HPr.out _ hA6).mono ?_
  rintro e w7 ⟨P7, c7, rfl, hP7, _, hb7⟩
  have hA7 := hA6.below hb7
  have hC7 := hC6.below hb7
  have hQ7 := hP6.below hb7
  have B7 := Lib.hid (B6.out.trans (hb7.mono B6.out.size))
  clear HPr hA6 hC6 hb7 B6 hP6
  go_wp2_with fail
  refine (HSp.out _ _ _ _ _ hQ7 hP7).mono ?_
  rintro e w8 ⟨rfl, hb8⟩
  have hA8 := hA7.below hb8
  have hC8 := hC7.below hb8
  have B8 := Lib.hid (B7.out.trans (hb8.mono B7.out.size))
  clear HSp hA7 hC7 hb8 B7 hQ7 hP7
  go_wp2_with fail
  refine (HSa.out _ hA8 hC8).mono ?_
  rintro e w9 ⟨rfl, hb9⟩
  have hA9 := hA8.below hb9
  have hC9 := hC8.below hb9
  have B9 := Lib.hid (B8.out.trans (hb9.mono B8.out.size))
  clear HSa hA8 hC8 hb9 B8
  go_wp2_with fail
  refine (HSr.out _ hA9 hC9).mono ?_
  rintro e w10 ⟨rfl, hb10⟩
  have hA10 := hA9.below hb10
  have B10 := Lib.hid (B9.out.trans (hb10.mono B9.out.size))
  clear HSr hA9 hC9 hb10 B9
  go_wp2_with fail
  refine (HSl.out _ hA10).mono ?_
  rintro e w11 ⟨rfl, hb11⟩
  have B11 := Lib.hid (B10.out.trans (hb11.mono B10.out.size))
  go_wp2_with fail
  go_ret
  exact ⟨rfl, B11.out⟩
end Go.Proofs.YteojnejomgomjaaDoor
