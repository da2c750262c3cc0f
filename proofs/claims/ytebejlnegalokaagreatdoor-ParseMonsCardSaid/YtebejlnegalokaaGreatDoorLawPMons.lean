/-
  The law ParseMons: true.
-/
import Derived.Test.YtebejlnegalokaaGreatDoorProg
import Derived.Test.YtebejlnegalokaaGreatDoorReg
import Derived.WalkKit
import Derived.WalkSpells
import Derived.WalkLawsBesides
import Derived.Lib.Hide
import Derived.Lib.MinMax
import Derived.Deep.QuietTactic
import Derived.BigQuiet
import Derived.OwnWalk
import Derived.Deep.AppendLies
import Derived.KernelRfl
import Derived.Test.YtebejlnegalokaaGreatDoorPw9
import Derived.Test.YtebejlnegalokaaGreatDoorPaZ
set_option linter.unusedSimpArgs false
set_option linter.unusedVariables false
namespace Go.Proofs.YtebejlnegalokaaGreatDoor
open Go Go.RowKit Go.Maps
open Gz (Tok HoldsT mildT)
open Nz (Nd HoldsN IntN)

theorem fewE_sMons (l : List Bd) : (fewE l).length ≤ 1000 := by unfold fewE; have := fewToE_len l 40; omega
theorem few_sMons (l : List Tok) : (Gz.few l).length ≤ 60 ∧ ∀ x ∈ Gz.few l, x.text.size ≤ 1000 ∧ x.glyph.size ≤ 1000 := by
  refine ⟨by unfold Gz.few Gz.fewTo; rw [List.length_map, List.length_take]; omega, fun x hx => ?_⟩
  unfold Gz.few Gz.fewTo at hx
  obtain ⟨y, _, rfl⟩ := List.mem_map.1 hx
  unfold Gz.few1 Gz.cut300
  simp only [ByteArray.size_extract]
  omega

set_option maxRecDepth 100000 in
set_option maxHeartbeats 32000000 in
theorem parseMons_any (a b : Addr) (TA : Option Addr) (ct : Nat) (l : List Tok) (EA : Option Addr) (ce : Nat) (env : List Bd) (inner : Bool) (w : World) (hle0 : l.length ≤ maxLen) (hsl : ∀ k ∈ l, k.text.size ≤ maxLen ∧ k.glyph.size ≤ maxLen) (hT0 : HoldsT w TA l) (hle : env.length ≤ maxLen) (hse : ∀ x ∈ env, x.name.size ≤ maxLen) (hE0 : HoldsE w EA env) (hw : WOk a b w) :
    Calls Tryz.prog 4 #[.slice TA l.length ct, .slice EA env.length ce, .bool inner] w fun e w' => e = .returned (.bool true) ∧ Below w.heap.size w w' := by
  have HS := Lib.hid (shown_any a b w hw)
  have HL := Lib.hid (fun W (h : HoldsT W TA l) => Gz.few_any TA ct l W hle0 (fun k x hx => hsl x (List.mem_of_getElem? hx)) h)
  have HF := Lib.hid (fun W (h : HoldsE W EA env) => Few_any EA ce env W hle hse h)
  have hfs := fewE_sMons env
  obtain ⟨hfl, hfz⟩ := few_sMons l
  have hfm : mildT (Gz.few l) := ⟨by omega, fun k x hx => by have := hfz x (List.mem_of_getElem? hx); omega⟩
  have HT := Lib.hid hT0
  have HE := Lib.hid hE0
  have HW := Lib.hid hw
  clear hw hle0 hsl hT0 hle hse hE0
  generalize fewE env = fe at *
  generalize Gz.few l = fl at *
  go_enter Tryz.func4, Tryz.ntmps4
  go_wp2_with fail
  refine HS.out.mono ?_
  rintro e w1 ⟨rfl, hb⟩
  have HB := Lib.hid hb
  have HT := Lib.hid (HT.out.below hb)
  have HE := Lib.hid (HE.out.below hb)
  have HW := Lib.hid (HW.out.below hb)
  clear hb
  go_wp2_with fail
  refine (HL.out w1 HT.out).mono ?_
  rintro e w2 ⟨A2, c2, rfl, h2, hc2, hb⟩
  have HT := Lib.hid h2
  have HB := Lib.hid (HB.out.trans (hb.mono HB.out.size))
  have HE := Lib.hid (HE.out.below hb)
  have HW := Lib.hid (HW.out.below hb)
  clear hb h2
  go_wp2_with fail
  refine (HF.out w2 HE.out).mono ?_
  rintro e w3 ⟨A3, c3, rfl, h3, hc3, hb⟩
  have HE := Lib.hid h3
  have HB := Lib.hid (HB.out.trans (hb.mono HB.out.size))
  have HT := Lib.hid (HT.out.below hb)
  have HW := Lib.hid (HW.out.below hb)
  clear hb h3
  have HX := Lib.hid (fun k (hk : 202 ≤ k) W (h : HoldsT W A2 fl) (h' : HoldsE W A3 fe) (v : WOk a b W) => Expr_k k a b A3 c3 fe inner A2 c2 fl W hfm hfz hc2 h h' hc3 hfs v (fun h0 => by have := (check_toks h0).2.2; omega))
  have HY := Lib.hid (fun k (hk : 202 ≤ k) W (h : HoldsT W A2 fl) (h' : HoldsE W A3 fe) (v : WOk a b W) => Fun_k k a b A3 c3 fe inner A2 c2 fl W hfm hfz hc2 h h' hc3 hfs v (fun h0 => by have := (check_toks h0).2.2; omega))
  have hbK := below_new w3 (.cells #[.int .i64 6, .string ⟨#[45]⟩, .string ⟨#[45]⟩] 37)
  have hg := heap_alloc_new w3 (.cells #[.int .i64 6, .string ⟨#[45]⟩, .string ⟨#[45]⟩] 37)
  obtain ⟨A5, c5, w5, hr5, ho5, hg5⟩ := push_toks (W := w3.alloc (.cells #[.int .i64 6, .string ⟨#[45]⟩, .string ⟨#[45]⟩] 37)) (base := w3.heap.size + 1) (l := []) (m := [minus]) (B := some ⟨w3.heap.size, 0, none⟩) (d := 1) (World.ownsRow_nil _ _ _ _) (one_tok (x := minus) hg) (by simp) (by simp) (by simp)
  have hb5 := (Below.refl _ (w3.alloc (.cells #[.int .i64 6, .string ⟨#[45]⟩, .string ⟨#[45]⟩] 37))).grown hg5 (Nat.le_refl _) (fun k e => by simp [Value.ownBlock] at e)
  have hb35 := hbK.trans (hb5.mono hbK.size)
  obtain ⟨A6, c6, w6, hr6, ho6, hg6⟩ := push_toks (W := w5) (base := w3.heap.size + 1) (l := [] ++ [minus]) (m := fl) (B := A2) (d := c2) ho5 (HT.out.below hb35) (by simp) (by omega) (by have := hb5.size; simpa using this)
  have hb36 := hb35.grown hg6 hb35.size (fun k e => by have := Gz.ownBlock_ge ho5 k e; omega)
  obtain ⟨A7, c7, e7, -, hS0, hSc⟩ := Gz.holdsT_of_own ho6
  simp only [Value.slice.injEq] at e7
  obtain ⟨rfl, -, rfl⟩ := e7
  have hS : HoldsT w6 A6 (minus :: fl) := hS0
  have hsl : (minus :: fl).length = 1 + fl.length := by simp; omega
  have hsc : (minus :: fl).length ≤ c6 := hSc
  simp only [List.length_nil, List.length_cons, List.length_append, Nat.zero_add] at hr5 hr6
  have HSl := Lib.hid hS
  have hb := hb36
  have HT := Lib.hid (HT.out.below hb)
  have HE := Lib.hid (HE.out.below hb)
  have HW := Lib.hid (HW.out.below hb)
  have HB := Lib.hid (HB.out.trans (hb.mono HB.out.size))
  clear hb
  have hsz : ∀ x ∈ minus :: fl, x.text.size ≤ 1000 ∧ x.glyph.size ≤ 1000 := fun x hx => by
    rcases List.mem_cons.1 hx with rfl | hx
    · decide
    · exact hfz x hx
  have hsm : mildT (minus :: fl) := ⟨by omega, fun k x hx => by have := hsz x (List.mem_of_getElem? hx); omega⟩
  have HXs := Lib.hid (fun k (hk : 206 ≤ k) W (h : HoldsT W A6 (minus :: fl)) (h' : HoldsE W A3 fe) (v : WOk a b W) => Expr_k k a b A3 c3 fe inner A6 c6 (minus :: fl) W hsm hsz (by omega) h h' hc3 hfs v (fun h0 => by have := (check_toks h0).2.2; omega))
  have HYs := Lib.hid (fun k (hk : 206 ≤ k) W (h : HoldsT W A6 (minus :: fl)) (h' : HoldsE W A3 fe) (v : WOk a b W) => Fun_k k a b A3 c3 fe inner A6 c6 (minus :: fl) W hsm hsz (by omega) h h' hc3 hfs v (fun h0 => by have := (check_toks h0).2.2; omega))
  have HLaw := Lib.hid (fun o1 o2 => mons_law 298 fe inner hfl o1 o2)
  rw [hsl] at HXs
  have tok1 : True := trivial
  clear hbK hg ho5 hg5 hb5 hb35 ho6 hg6 hb36 hS0 hS hSc HYs HY
  go_wp2_with (first | (at_builtin; have _t := tok1; go_must (refine Nz.wpList_append_run rfl _ _ 34 34 rfl rfl rfl hr5 ?_); clear tok1) | (at_builtin; go_must (refine Nz.wpList_append_run rfl _ _ 34 34 rfl rfl rfl hr6 ?_)))
  refine (HX.out 300 (by omega) w6 HT.out HE.out HW.out).mono ?_
  rintro e w7 ⟨oA, oc, rfl, oh, od, oO, hb⟩
  have Ho := Lib.hid oh
  have HOo := Lib.hid oO
  clear oh oO
  have HT := Lib.hid (HT.out.below hb)
  have HE := Lib.hid (HE.out.below hb)
  have HW := Lib.hid (HW.out.below hb)
  have HSl := Lib.hid (HSl.out.below hb)
  have HB := Lib.hid (HB.out.trans (hb.mono HB.out.size))
  clear hb
  go_wp2_with fail
  refine (HXs.out 300 (by omega) w7 HSl.out HE.out HW.out).mono ?_
  rintro e w8 ⟨pA, pc, rfl, ph, pd, pO, hb⟩
  have Hp := Lib.hid ph
  have HOp := Lib.hid pO
  clear ph pO
  have HT := Lib.hid (HT.out.below hb)
  have HE := Lib.hid (HE.out.below hb)
  have HW := Lib.hid (HW.out.below hb)
  have HSl := Lib.hid (HSl.out.below hb)
  have Ho := Lib.hid (Ho.out.below hb)
  have HB := Lib.hid (HB.out.trans (hb.mono HB.out.size))
  clear hb
  have HL2 := Lib.hid (HLaw.out _ _ rfl rfl)
  generalize parseOf fl ((pz 300).expr fe inner fl) = o1 at *
  generalize parseOf (minus :: fl) ((pz 300).expr fe inner (minus :: fl)) = o2 at *
  obtain ⟨t1, e1⟩ := o1
  obtain ⟨t2, e2⟩ := o2
  try simp only at *
  obtain ⟨hl1, hl2⟩ := HL2.out
  try simp only at hl1 hl2
  clear HL2 HLaw HX HXs
  by_cases h0 : e1 = 0
  · obtain ⟨h1, h2⟩ := hl2 h0
    subst h0 h1
    have i2 : ((t2.length : Int) == (t1.length : Int) + 2) = true := by simp; omega
    have hn1 : t1.length ≤ 400 := (HOo.out rfl).len
    clear hl1 hl2 h2
    go_wp2_with fail
    go_ret
    exact ⟨rfl, HB.out⟩
  · have q1 : (e1 != 0) = true := by simp [h0]
    have hw := hl1 h0
    clear hl1 hl2
    by_cases hq : e2 = e1
    · subst hq
      go_wp2_with fail
      go_ret
      exact ⟨rfl, HB.out⟩
    · have q2 : (e2 == e1) = false := by simp [hq]
      rcases hw with hw | hw | hw
      · exact absurd hw hq
      · subst hw
        go_wp2_with fail
        go_ret
        exact ⟨rfl, HB.out⟩
      · subst hw
        go_wp2_with fail
        go_ret
        exact ⟨rfl, HB.out⟩
end Go.Proofs.YtebejlnegalokaaGreatDoor
