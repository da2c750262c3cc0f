/-
  The law ParseOps: true.
-/
import Derived.Test.YtebejlnegalokaaGreatDoorProg
import Derived.Test.YtebejlnegalokaaGreatDoorReg
import Derived.WalkKit
import Derived.WalkSpells
import Derived.WalkLawsBesides
import Derived.Lib.Hide
import Derived.Lib.MinMax
import Derived.Deep.QuietTactic
import Derived.BigQuiet
import Derived.OwnWalk
import Derived.Deep.AppendLies
import Derived.KernelRfl
import Derived.Test.YtebejlnegalokaaGreatDoorPw9
import Derived.Test.YtebejlnegalokaaGreatDoorPaZ
set_option linter.unusedSimpArgs false
set_option linter.unusedVariables false
namespace Go.Proofs.YtebejlnegalokaaGreatDoor
open Go Go.RowKit Go.Maps
open Gz (Tok HoldsT mildT)
open Nz (Nd HoldsN IntN)

theorem fewE_sOps (l : List Bd) : (fewE l).length ≤ 1000 := by unfold fewE; have := fewToE_len l 40; omega
theorem few_sOps (l : List Tok) : (Gz.few l).length ≤ 60 ∧ ∀ x ∈ Gz.few l, x.text.size ≤ 1000 ∧ x.glyph.size ≤ 1000 := by
  refine ⟨by unfold Gz.few Gz.fewTo; rw [List.length_map, List.length_take]; omega, fun x hx => ?_⟩
  unfold Gz.few Gz.fewTo at hx
  obtain ⟨y, _, rfl⟩ := List.mem_map.1 hx
  unfold Gz.few1 Gz.cut300
  simp only [ByteArray.size_extract]
  omega

set_option maxRecDepth 100000 in
set_option maxHeartbeats 32000000 in
theorem parseOps_any (a b : Addr) (TA : Option Addr) (ct : Nat) (l : List Tok) (EA : Option Addr) (ce : Nat) (env : List Bd) (inner : Bool) (w : World) (hle0 : l.length ≤ maxLen) (hsl : ∀ k ∈ l, k.text.size ≤ maxLen ∧ k.glyph.size ≤ maxLen) (hT0 : HoldsT w TA l) (hle : env.length ≤ maxLen) (hse : ∀ x ∈ env, x.name.size ≤ maxLen) (hE0 : HoldsE w EA env) (hw : WOk a b w) :
    Calls Tryz.prog 5 #[.slice TA l.length ct, .slice EA env.length ce, .bool inner] w fun e w' => e = .returned (.bool true) ∧ Below w.heap.size w w' := by
  have HS := Lib.hid (shown_any a b w hw)
  have HL := Lib.hid (fun W (h : HoldsT W TA l) => Gz.few_any TA ct l W hle0 (fun k x hx => hsl x (List.mem_of_getElem? hx)) h)
  have HF := Lib.hid (fun W (h : HoldsE W EA env) => Few_any EA ce env W hle hse h)
  have hfs := fewE_sOps env
  obtain ⟨hfl, hfz⟩ := few_sOps l
  have hfm : mildT (Gz.few l) := ⟨by omega, fun k x hx => by have := hfz x (List.mem_of_getElem? hx); omega⟩
  have HT := Lib.hid hT0
  have HE := Lib.hid hE0
  have HW := Lib.hid hw
  clear hw hle0 hsl hT0 hle hse hE0
  generalize fewE env = fe at *
  generalize Gz.few l = fl at *
  go_enter Tryz.func5, Tryz.ntmps5
  go_wp2_with fail
  refine HS.out.mono ?_
  rintro e w1 ⟨rfl, hb⟩
  have HB := Lib.hid hb
  have HT := Lib.hid (HT.out.below hb)
  have HE := Lib.hid (HE.out.below hb)
  have HW := Lib.hid (HW.out.below hb)
  clear hb
  go_wp2_with fail
  refine (HL.out w1 HT.out).mono ?_
  rintro e w2 ⟨A2, c2, rfl, h2, hc2, hb⟩
  have HT := Lib.hid h2
  have HB := Lib.hid (HB.out.trans (hb.mono HB.out.size))
  have HE := Lib.hid (HE.out.below hb)
  have HW := Lib.hid (HW.out.below hb)
  clear hb h2
  go_wp2_with fail
  refine (HF.out w2 HE.out).mono ?_
  rintro e w3 ⟨A3, c3, rfl, h3, hc3, hb⟩
  have HE := Lib.hid h3
  have HB := Lib.hid (HB.out.trans (hb.mono HB.out.size))
  have HT := Lib.hid (HT.out.below hb)
  have HW := Lib.hid (HW.out.below hb)
  clear hb h3
  have HX := Lib.hid (fun k (hk : 202 ≤ k) W (h : HoldsT W A2 fl) (h' : HoldsE W A3 fe) (v : WOk a b W) => Expr_k k a b A3 c3 fe inner A2 c2 fl W hfm hfz hc2 h h' hc3 hfs v (fun h0 => by have := (check_toks h0).2.2; omega))
  have HY := Lib.hid (fun k (hk : 202 ≤ k) W (h : HoldsT W A2 fl) (h' : HoldsE W A3 fe) (v : WOk a b W) => Fun_k k a b A3 c3 fe inner A2 c2 fl W hfm hfz hc2 h h' hc3 hfs v (fun h0 => by have := (check_toks h0).2.2; omega))
  go_wp2_with fail
  refine (HY.out 300 (by omega) w3 HT.out HE.out HW.out).mono ?_
  rintro e w4 ⟨oA, oc, rfl, oh, od, oO, hb⟩
  have Ho := Lib.hid oh
  have HOo := Lib.hid oO
  clear oh oO
  have HT := Lib.hid (HT.out.below hb)
  have HE := Lib.hid (HE.out.below hb)
  have HW := Lib.hid (HW.out.below hb)
  have HB := Lib.hid (HB.out.trans (hb.mono HB.out.size))
  clear hb
  obtain ⟨A5, c5, w5, hr5, ho5, hg5⟩ := push_toks (W := w4) (base := w4.heap.size) (l := []) (m := fl) (B := A2) (d := c2) (World.ownsRow_nil _ _ _ _) HT.out (by simp) (by omega) (Nat.le_refl _)
  have hb45 := (Below.refl _ w4).grown hg5 (Nat.le_refl _) (fun k e => by simp [Value.ownBlock] at e)
  have hbK := below_new w5 (.cells #[.int .i64 7, .string ⟨#[47]⟩, .string ⟨#[47]⟩] 37)
  have hg := heap_alloc_new w5 (.cells #[.int .i64 7, .string ⟨#[47]⟩, .string ⟨#[47]⟩] 37)
  have hb4K := hb45.trans (hbK.mono hb45.size)
  obtain ⟨A6, c6, w6, hr6, ho6, hg6⟩ := push_toks (W := w5.alloc (.cells #[.int .i64 7, .string ⟨#[47]⟩, .string ⟨#[47]⟩] 37)) (base := w4.heap.size) (l := [] ++ fl) (m := [slash]) (B := some ⟨w5.heap.size, 0, none⟩) (d := 1) (Gz.own_below ho5 hbK) (one_tok (x := slash) hg) (by simp; omega) (by simp) hb4K.size
  have hb46 := hb4K.grown hg6 hb4K.size (fun k e => Gz.ownBlock_ge ho5 k e)
  obtain ⟨A7, c7, e7, -, hS0, hSc⟩ := Gz.holdsT_of_own ho6
  simp only [Value.slice.injEq] at e7
  obtain ⟨rfl, -, rfl⟩ := e7
  have hS : HoldsT w6 A6 (fl ++ [slash]) := hS0
  have hsl : (fl ++ [slash]).length = fl.length + 1 := by simp
  have hsc : (fl ++ [slash]).length ≤ c6 := hSc
  simp only [List.length_nil, List.length_cons, List.length_append, Nat.zero_add] at hr5 hr6
  have HSl := Lib.hid hS
  have hb := hb46
  have HT := Lib.hid (HT.out.below hb)
  have HE := Lib.hid (HE.out.below hb)
  have HW := Lib.hid (HW.out.below hb)
  have Ho := Lib.hid (Ho.out.below hb)
  have HB := Lib.hid (HB.out.trans (hb.mono HB.out.size))
  clear hb
  have hsz : ∀ x ∈ fl ++ [slash], x.text.size ≤ 1000 ∧ x.glyph.size ≤ 1000 := fun x hx => by
    rcases List.mem_append.1 hx with hx | hx
    · exact hfz x hx
    · cases List.mem_singleton.1 hx
      decide
  have hsm : mildT (fl ++ [slash]) := ⟨by omega, fun k x hx => by have := hsz x (List.mem_of_getElem? hx); omega⟩
  have HXs := Lib.hid (fun k (hk : 206 ≤ k) W (h : HoldsT W A6 (fl ++ [slash])) (h' : HoldsE W A3 fe) (v : WOk a b W) => Expr_k k a b A3 c3 fe inner A6 c6 (fl ++ [slash]) W hsm hsz (by omega) h h' hc3 hfs v (fun h0 => by have := (check_toks h0).2.2; omega))
  have HYs := Lib.hid (fun k (hk : 206 ≤ k) W (h : HoldsT W A6 (fl ++ [slash])) (h' : HoldsE W A3 fe) (v : WOk a b W) => Fun_k k a b A3 c3 fe inner A6 c6 (fl ++ [slash]) W hsm hsz (by omega) h h' hc3 hfs v (fun h0 => by have := (check_toks h0).2.2; omega))
  have HLaw := Lib.hid (fun o1 o2 => ops_law (pz_res 299) fe inner hfl o1 o2)
  rw [hsl] at HYs
  have tok1 : True := trivial
  clear hbK hg ho5 hg5 hb45 hb4K ho6 hg6 hb46 hS0 hS hSc HXs HX HY
  go_wp2_with (first | (at_builtin; have _t := tok1; go_must (refine Nz.wpList_append_run rfl _ _ 34 34 rfl rfl rfl hr5 ?_); clear tok1) | (at_builtin; go_must (refine Nz.wpList_append_run rfl _ _ 34 34 rfl rfl rfl hr6 ?_)))
  refine (HYs.out 300 (by omega) w6 HSl.out HE.out HW.out).mono ?_
  rintro e w7 ⟨pA, pc, rfl, ph, pd, pO, hb⟩
  have Hp := Lib.hid ph
  have HOp := Lib.hid pO
  clear ph pO
  have HT := Lib.hid (HT.out.below hb)
  have HE := Lib.hid (HE.out.below hb)
  have HW := Lib.hid (HW.out.below hb)
  have Ho := Lib.hid (Ho.out.below hb)
  have HSl := Lib.hid (HSl.out.below hb)
  have HB := Lib.hid (HB.out.trans (hb.mono HB.out.size))
  clear hb
  have HL2 := Lib.hid (HLaw.out _ _ rfl rfl)
  rw [show funP (pz 299) fe inner fl = (pz 300).fn fe inner fl from rfl, show funP (pz 299) fe inner (fl ++ [slash]) = (pz 300).fn fe inner (fl ++ [slash]) from rfl] at HL2
  generalize parseOf fl ((pz 300).fn fe inner fl) = o1 at *
  generalize parseOf (fl ++ [slash]) ((pz 300).fn fe inner (fl ++ [slash])) = o2 at *
  obtain ⟨t1, e1⟩ := o1
  obtain ⟨t2, e2⟩ := o2
  try simp only at *
  obtain ⟨hl1, hl2⟩ := HL2.out
  try simp only at hl1 hl2
  clear HL2 HLaw HYs
  by_cases h0 : e1 = 0
  · obtain ⟨h1, kkid, h2⟩ := hl2 h0
    subst h0 h1
    have i2 : ((t2.length : Int) == (t1.length : Int) + 1) = true := by simp; omega
    have ok1 := Lib.hid (HOo.out rfl)
    have ok2 := Lib.hid (HOp.out rfl)
    have hn1 : t1.length ≤ 400 := ok1.out.len
    have kcap := pd
    clear HOo HOp
    clear hl1 hl2 h2
    have HK := Lib.hid ((Nz.kidOf_any t2 0 pA pc a w7 Hp.out ok2.out.int kcap (by have := ok2.out.len; omega) HW.out.node).mono (fun e w' h => h.gives))
    rw [kkid] at HK
    go_wp2_with fail
    refine HK.out.mono ?_
    intro e w8 hK
    obtain ⟨kA, kc, rfl, kh, -, hb⟩ := (show ∃ A c, e = .returned (.tuple #[.slice A t1.length c, .int .i64 0]) ∧ HoldsN w8 A t1 ∧ t1.length ≤ c ∧ Below w7.heap.size w7 w8 from hK)
    have Hk := Lib.hid kh
    clear kh HK
    have HT := Lib.hid (HT.out.below hb)
    have HE := Lib.hid (HE.out.below hb)
    have HW := Lib.hid (HW.out.below hb)
    have Ho := Lib.hid (Ho.out.below hb)
    have HSl := Lib.hid (HSl.out.below hb)
    have Hp := Lib.hid (Hp.out.below hb)
    have HB := Lib.hid (HB.out.trans (hb.mono HB.out.size))
    clear hb
    have HQ := Lib.hid (Nz.same_any t1 t1 kA oA kc oc w8 (by have := ok1.out.len; omega) (by have := ok1.out.len; omega) Hk.out Ho.out ok1.out.int ok1.out.int)
    rw [decide_eq_true rfl] at HQ
    go_wp2_with fail
    refine HQ.out.mono ?_
    rintro e w9 ⟨rfl, hb⟩
    have HB := Lib.hid (HB.out.trans (hb.mono HB.out.size))
    clear hb HQ
    go_wp2_with fail
    go_ret
    exact ⟨rfl, HB.out⟩
  · have q1 : (e1 != 0) = true := by simp [h0]
    have hw := hl1 h0
    have q2 : (e2 != 0) = true := by simp [hw]
    clear hl1 hl2
    go_wp2_with fail
    go_ret
    exact ⟨rfl, HB.out⟩
end Go.Proofs.YtebejlnegalokaaGreatDoor
