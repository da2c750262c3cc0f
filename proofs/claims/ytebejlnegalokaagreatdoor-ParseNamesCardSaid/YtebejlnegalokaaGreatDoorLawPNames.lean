/-
  The law ParseNames: true.
-/
import Derived.Test.YtebejlnegalokaaGreatDoorProg
import Derived.Test.YtebejlnegalokaaGreatDoorReg
import Derived.WalkKit
import Derived.WalkSpells
import Derived.WalkLawsBesides
import Derived.Lib.Hide
import Derived.Lib.MinMax
import Derived.Deep.QuietTactic
import Derived.BigQuiet
import Derived.OwnWalk
import Derived.Deep.AppendLies
import Derived.KernelRfl
import Derived.Test.YtebejlnegalokaaGreatDoorPw9
set_option linter.unusedSimpArgs false
set_option linter.unusedVariables false
namespace Go.Proofs.YtebejlnegalokaaGreatDoor
open Go Go.RowKit Go.Maps
open Gz (Tok HoldsT mildT)
open Nz (Nd HoldsN IntN MayNd fewN)

theorem fewE_small (l : List Bd) : (fewE l).length ≤ 1000 := by unfold fewE; have := fewToE_len l 40; omega

set_option maxRecDepth 100000 in
set_option maxHeartbeats 8000000 in
theorem parseNames_any (a b : Addr) (EA : Option Addr) (ce : Nat) (env : List Bd) (name : ByteArray) (TA : Option Addr) (ct : Nat) (t : List Nd) (w : World) (hle : env.length ≤ maxLen) (hse : ∀ x ∈ env, x.name.size ≤ maxLen) (hE : HoldsE w EA env) (hn : name.size ≤ maxLen)
    (htl : t.length ≤ maxLen) (hm : ∀ x ∈ t, MayNd x) (hT : HoldsN w TA t) (hw : WOk a b w) :
    Calls Tryz.prog 3 #[.slice EA env.length ce, .string name, .slice TA t.length ct] w fun e w' => e = .returned (.bool true) ∧ Below w.heap.size w w' := by
  have HS := Lib.hid (shown_any a b w hw)
  have HF := Lib.hid (fun W (h : HoldsE W EA env) => Few_any EA ce env W hle hse h)
  have HN := Lib.hid (fun W (h : HoldsN W TA t) => Nz.fewC t TA ct W h htl hm)
  have hfi := Nz.few_int hm
  have hfs := fewE_small env
  have HC := Lib.hid (fun A c n W (h : HoldsE W A (fewE env)) => Class_any A c (fewE env) n W (by omega) h)
  have HD := Lib.hid (fun A c n W (h : HoldsE W A (fewE env)) => refClass_any A c (fewE env) n W (by omega) h)
  have HB := Lib.hid (fun A c W (h : HoldsN W A (fewN t)) => binds_any (fewN t) hfi A c W h)
  have HR := Lib.hid (fun A c W (h : HoldsN W A (fewN t)) => refBinds_any (fewN t) hfi A c W h)
  have HE := Lib.hid hE
  have HT := Lib.hid hT
  unfold maxLen at hn
  have m0 : (0 : Int) ≤ min (name.size : Int) 50 := by omega
  have m1 : min (name.size : Int) 50 ≤ (name.size : Int) := by omega
  have m2 : (min (name.size : Int) 50).toNat = min name.size 50 := by omega
  clear hw hle hse hE htl hm hT hfi hfs
  generalize (bindsN (fewN t)).getD ⟨noB, false⟩ = bd at *
  generalize (bindsN (fewN t)).isSome = bo at *
  generalize fewE env = fe at *
  generalize fewN t = ft at *
  obtain ⟨bn, bf⟩ := bd
  simp only at HB HR
  go_enter Tryz.func3, Tryz.ntmps3
  go_wp2_with fail
  refine HS.out.mono ?_
  rintro e w1 ⟨rfl, hb⟩
  have HB1 := Lib.hid hb
  have HE1 := Lib.hid (HE.out.below hb)
  have HT1 := Lib.hid (HT.out.below hb)
  clear hb
  go_wp2_with fail
  refine (HF.out w1 HE1.out).mono ?_
  rintro e w2 ⟨A2, c2, rfl, h2, -, hb⟩
  have HE2 := Lib.hid h2
  have HB2 := Lib.hid (HB1.out.trans (hb.mono HB1.out.size))
  have HT2 := Lib.hid (HT1.out.below hb)
  clear hb h2
  go_wp2_with fail
  refine (HN.out w2 HT2.out).mono ?_
  rintro e w3 ⟨A3, c3, rfl, h3, -, hb⟩
  have HT3 := Lib.hid h3
  have HB3 := Lib.hid (HB2.out.trans (hb.mono HB2.out.size))
  have HE3 := Lib.hid (HE2.out.below hb)
  clear hb h3
  generalize name.extract 0 (min name.size 50) = nm at *
  go_wp2_with fail
  refine (HC.out A2 c2 nm w3 HE3.out).mono ?_
  rintro e w4 ⟨rfl, hb⟩
  have HB4 := Lib.hid (HB3.out.trans (hb.mono HB3.out.size))
  have HE4 := Lib.hid (HE3.out.below hb)
  have HT4 := Lib.hid (HT3.out.below hb)
  clear hb
  go_wp2_with fail
  refine (HD.out A2 c2 nm w4 HE4.out).mono ?_
  rintro e w5 ⟨rfl, rfl⟩
  go_wp2_with fail
  refine (HB.out A3 c3 w5 HT4.out).mono ?_
  rintro e w6 ⟨rfl, hb⟩
  have hbK := below_new w6 (.cells #[.string bn, .bool bf] 30)
  have hb6 := hb.trans (hbK.mono hb.size)
  have HB6 := Lib.hid (HB4.out.trans (hb6.mono HB4.out.size))
  have HT6 := Lib.hid (HT4.out.below hb6)
  have HRow := Lib.hid (heap_alloc_new w6 (.cells #[.string bn, .bool bf] 30))
  clear hb hb6 hbK
  go_wp2_with fail
  refine (HR.out A3 c3 _ HT6.out).mono ?_
  rintro e w7 ⟨rfl, hb⟩
  have hbK := below_new w7 (.cells #[.string bn, .bool bf] 30)
  have hb7 := hb.trans (hbK.mono hb.size)
  have HB7 := Lib.hid (HB6.out.trans (hb7.mono HB6.out.size))
  have hrow := (hb7.block _ (by simp)).trans HRow.out
  have hrow2 := heap_alloc_new w7 (.cells #[.string bn, .bool bf] 30)
  obtain ⟨W8, hW8⟩ : ∃ W8, W8 = w7.alloc (.cells #[.string bn, .bool bf] 30) := ⟨_, rfl⟩
  rw [← hW8] at hrow hrow2 HB7
  have r0 : W8.cell? ⟨w6.heap.size, 0, none⟩ = some (.string bn) := by simp [World.cell?, hrow]
  have r1 : W8.cell? ⟨w6.heap.size, 1, none⟩ = some (.bool bf) := by simp [World.cell?, hrow]
  have r2 : W8.cell? ⟨w7.heap.size, 0, none⟩ = some (.string bn) := by simp [World.cell?, hrow2]
  have r3 : W8.cell? ⟨w7.heap.size, 1, none⟩ = some (.bool bf) := by simp [World.cell?, hrow2]
  subst hW8
  clear hb hb7 hbK hrow hrow2
  go_wp2_with fail
  go_ret
  exact ⟨rfl, HB7.out⟩
end Go.Proofs.YtebejlnegalokaaGreatDoor
