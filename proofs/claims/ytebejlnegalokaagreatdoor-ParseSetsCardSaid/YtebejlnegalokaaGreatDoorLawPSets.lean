/-
  The law ParseSets: true.
-/
import Derived.Test.YtebejlnegalokaaGreatDoorProg
import Derived.Test.YtebejlnegalokaaGreatDoorReg
import Derived.WalkKit
import Derived.WalkSpells
import Derived.WalkLawsBesides
import Derived.Lib.Hide
import Derived.Lib.MinMax
import Derived.Deep.QuietTactic
import Derived.BigQuiet
import Derived.OwnWalk
import Derived.Deep.AppendLies
import Derived.KernelRfl
import Derived.Test.YtebejlnegalokaaGreatDoorPw9
import Derived.Test.YtebejlnegalokaaGreatDoorPaZ
set_option linter.unusedSimpArgs false
set_option linter.unusedVariables false
namespace Go.Proofs.YtebejlnegalokaaGreatDoor
open Go Go.RowKit Go.Maps
open Gz (Tok HoldsT mildT)
open Nz (Nd HoldsN IntN)

theorem fewE_sSets (l : List Bd) : (fewE l).length ≤ 1000 := by unfold fewE; have := fewToE_len l 40; omega
theorem few_sSets (l : List Tok) : (Gz.few l).length ≤ 60 ∧ ∀ x ∈ Gz.few l, x.text.size ≤ 1000 ∧ x.glyph.size ≤ 1000 := by
  refine ⟨by unfold Gz.few Gz.fewTo; rw [List.length_map, List.length_take]; omega, fun x hx => ?_⟩
  unfold Gz.few Gz.fewTo at hx
  obtain ⟨y, _, rfl⟩ := List.mem_map.1 hx
  unfold Gz.few1 Gz.cut300
  simp only [ByteArray.size_extract]
  omega

theorem two_tok {W : World} {g : Nat} {x y : Tok} (h : W.heap[g]? = some (.cells #[.int .i64 x.kind, .string x.text, .string x.glyph, .int .i64 y.kind, .string y.text, .string y.glyph] 37 (0, 0))) : HoldsT W (some ⟨g, 0, none⟩) [x, y] := by
  intro k z hz
  match k, hz with
  | 0, hz =>
    cases hz
    exact ⟨g, 0, rfl, by simp [World.cell?, h], by simp [World.cell?, h], by simp [World.cell?, h]⟩
  | 1, hz =>
    cases hz
    exact ⟨g, 0, rfl, by simp [World.cell?, h], by simp [World.cell?, h], by simp [World.cell?, h]⟩
  | k + 2, hz => simp at hz
theorem nameE (s : ByteArray) : s.toList.isEmpty = decide (s = noB) := by
  have := neq_empty s
  cases h : s.toList.isEmpty <;> rw [h] at this <;> simp at this
  · simp [this]
  · simp [this]

set_option maxRecDepth 100000 in
set_option maxHeartbeats 32000000 in
theorem parseSets_any (a b : Addr) (TA : Option Addr) (ct : Nat) (l : List Tok) (EA : Option Addr) (ce : Nat) (env : List Bd) (inner : Bool) (nm : ByteArray) (w : World) (hle0 : l.length ≤ maxLen) (hsl : ∀ k ∈ l, k.text.size ≤ maxLen ∧ k.glyph.size ≤ maxLen) (hT0 : HoldsT w TA l) (hle : env.length ≤ maxLen) (hse : ∀ x ∈ env, x.name.size ≤ maxLen) (hE0 : HoldsE w EA env) (hnm : nm.size ≤ maxLen) (hw : WOk a b w) :
    Calls Tryz.prog 7 #[.slice TA l.length ct, .slice EA env.length ce, .bool inner, .string nm] w fun e w' => e = .returned (.bool true) ∧ Below w.heap.size w w' := by
  have HS := Lib.hid (shown_any a b w hw)
  have HL := Lib.hid (fun W (h : HoldsT W TA l) => Gz.few_any TA ct l W hle0 (fun k x hx => hsl x (List.mem_of_getElem? hx)) h)
  have HF := Lib.hid (fun W (h : HoldsE W EA env) => Few_any EA ce env W hle hse h)
  have hfs := fewE_sSets env
  obtain ⟨hfl, hfz⟩ := few_sSets l
  have hfm : mildT (Gz.few l) := ⟨by omega, fun k x hx => by have := hfz x (List.mem_of_getElem? hx); omega⟩
  have HT := Lib.hid hT0
  have HE := Lib.hid hE0
  have HW := Lib.hid hw
  unfold maxLen at hnm
  have m0 : (0 : Int) ≤ min (nm.size : Int) 50 := by omega
  have m1 : min (nm.size : Int) 50 ≤ (nm.size : Int) := by omega
  have m2 : (min (nm.size : Int) 50).toNat = min nm.size 50 := by omega
  obtain ⟨nn, hnn⟩ : ∃ nn, nm.extract 0 (min nm.size 50) = nn := ⟨_, rfl⟩
  have hns : nn.size ≤ 50 := by rw [← hnn, ByteArray.size_extract]; omega
  clear hw hle0 hsl hT0 hle hse hE0
  generalize fewE env = fe at *
  generalize Gz.few l = fl at *
  go_enter Tryz.func7, Tryz.ntmps7
  go_wp2_with fail
  refine HS.out.mono ?_
  rintro e w1 ⟨rfl, hb⟩
  have HB := Lib.hid hb
  have HT := Lib.hid (HT.out.below hb)
  have HE := Lib.hid (HE.out.below hb)
  have HW := Lib.hid (HW.out.below hb)
  clear hb
  go_wp2_with fail
  refine (HL.out w1 HT.out).mono ?_
  rintro e w2 ⟨A2, c2, rfl, h2, hc2, hb⟩
  have HT := Lib.hid h2
  have HB := Lib.hid (HB.out.trans (hb.mono HB.out.size))
  have HE := Lib.hid (HE.out.below hb)
  have HW := Lib.hid (HW.out.below hb)
  clear hb h2
  go_wp2_with fail
  refine (HF.out w2 HE.out).mono ?_
  rintro e w3 ⟨A3, c3, rfl, h3, hc3, hb⟩
  have HE := Lib.hid h3
  have HB := Lib.hid (HB.out.trans (hb.mono HB.out.size))
  have HT := Lib.hid (HT.out.below hb)
  have HW := Lib.hid (HW.out.below hb)
  clear hb h3
  have HX := Lib.hid (fun k (hk : 202 ≤ k) W (h : HoldsT W A2 fl) (h' : HoldsE W A3 fe) (v : WOk a b W) => Expr_k k a b A3 c3 fe inner A2 c2 fl W hfm hfz hc2 h h' hc3 hfs v (fun h0 => by have := (check_toks h0).2.2; omega))
  have HY := Lib.hid (fun k (hk : 202 ≤ k) W (h : HoldsT W A2 fl) (h' : HoldsE W A3 fe) (v : WOk a b W) => Fun_k k a b A3 c3 fe inner A2 c2 fl W hfm hfz hc2 h h' hc3 hfs v (fun h0 => by have := (check_toks h0).2.2; omega))
  obtain ⟨tN, htN⟩ : ∃ x : Tok, x = ⟨5, nn, noB⟩ := ⟨_, rfl⟩
  have hbK := below_new w3 (.cells #[.int .i64 5, .string nn, .string ⟨#[]⟩, .int .i64 8, .string ⟨#[226, 134, 144]⟩, .string ⟨#[226, 134, 144]⟩] 37)
  have hg := heap_alloc_new w3 (.cells #[.int .i64 5, .string nn, .string ⟨#[]⟩, .int .i64 8, .string ⟨#[226, 134, 144]⟩, .string ⟨#[226, 134, 144]⟩] 37)
  obtain ⟨A5, c5, w5, hr5, ho5, hg5⟩ := push_toks (W := w3.alloc (.cells #[.int .i64 5, .string nn, .string ⟨#[]⟩, .int .i64 8, .string ⟨#[226, 134, 144]⟩, .string ⟨#[226, 134, 144]⟩] 37)) (base := w3.heap.size) (l := []) (m := [tN, tArr]) (B := some ⟨w3.heap.size, 0, none⟩) (d := 2) (World.ownsRow_nil _ _ _ _) (by rw [htN]; exact two_tok (x := ⟨5, nn, noB⟩) (y := tArr) hg) (by simp) (by simp) hbK.size
  have hb5 := hbK.grown hg5 hbK.size (fun k e => by simp [Value.ownBlock] at e)
  obtain ⟨A6, c6, w6, hr6, ho6, hg6⟩ := push_toks (W := w5) (base := w3.heap.size) (l := [] ++ [tN, tArr]) (m := fl) (B := A2) (d := c2) ho5 (HT.out.below hb5) (by simp) (by omega) hb5.size
  have hb6 := hb5.grown hg6 hb5.size (fun k e => Gz.ownBlock_ge ho5 k e)
  obtain ⟨A7, c7, e7, -, hS0, hSc⟩ := Gz.holdsT_of_own ho6
  simp only [Value.slice.injEq] at e7
  obtain ⟨rfl, -, rfl⟩ := e7
  have hS : HoldsT w6 A6 (setT nn fl) := by unfold setT; rw [← htN]; exact hS0
  have hsl : (setT nn fl).length = 2 + fl.length := by unfold setT; simp; omega
  have hsc : (setT nn fl).length ≤ c6 := by
    have : (setT nn fl).length = ([] ++ [tN, tArr] ++ fl).length := by unfold setT; simp
    omega
  simp only [List.length_nil, List.length_cons, List.length_append, Nat.zero_add] at hr5 hr6
  have HSl := Lib.hid hS
  have hb := hb6
  have HT := Lib.hid (HT.out.below hb)
  have HE := Lib.hid (HE.out.below hb)
  have HW := Lib.hid (HW.out.below hb)
  have HB := Lib.hid (HB.out.trans (hb.mono HB.out.size))
  clear hb
  have hsz : ∀ x ∈ setT nn fl, x.text.size ≤ 1000 ∧ x.glyph.size ≤ 1000 := fun x hx => by
    unfold setT at hx
    rcases List.mem_cons.1 hx with rfl | hx
    · exact ⟨by show nn.size ≤ 1000; omega, by show noB.size ≤ 1000; decide⟩
    · rcases List.mem_cons.1 hx with rfl | hx
      · decide
      · exact hfz x hx
  have hsm : mildT (setT nn fl) := ⟨by omega, fun k x hx => by have := hsz x (List.mem_of_getElem? hx); omega⟩
  obtain ⟨k, hk0⟩ : ∃ k : Nat, 206 ≤ k + 1 ∧ 206 ≤ k + 2 := ⟨298, by omega, by omega⟩
  obtain ⟨hk1, hk2⟩ := hk0
  have HLaw := Lib.hid (fun T X Y => sets_law_p k fe inner nn hfl T X Y)
  have HSt := Lib.hid (fun W (h : HoldsT W A6 (setT nn fl)) (h' : HoldsE W A3 fe) (v : WOk a b W) => Statement_k (k + 2) a b A3 c3 fe inner A6 c6 (setT nn fl) W hsm hsz hsc h h' hc3 hfs v (fun h0 => by have := (check_toks h0).2.2; omega))

  rw [hsl] at HSt
  have HSL := Lib.hid hsl
  have tok1 : True := trivial
  clear hbK hg ho5 hg5 hb5 ho6 hg6 hb6 hS0 hS hSc hsm hsz hsl hsc htN
  go_wp2_with (first | (at_builtin; have _t := tok1; go_must (refine Nz.wpList_append_run rfl _ _ 34 34 rfl rfl rfl hr5 ?_); clear tok1) | (at_builtin; go_must (refine Nz.wpList_append_run rfl _ _ 34 34 rfl rfl rfl hr6 ?_)))
  refine (HSt.out w6 HSl.out HE.out HW.out).mono ?_
  rintro e w7 ⟨pA, pc, rfl, ph, pd, pO, hb⟩
  have Hp := Lib.hid ph
  have HOp := Lib.hid pO
  clear ph pO
  have HT := Lib.hid (HT.out.below hb)
  have HE := Lib.hid (HE.out.below hb)
  have HW := Lib.hid (HW.out.below hb)
  have HSl := Lib.hid (HSl.out.below hb)
  have HB := Lib.hid (HB.out.trans (hb.mono HB.out.size))
  clear hb
  go_wp2_with fail
  refine (HX.out (k + 1) (by omega) w7 HT.out HE.out HW.out).mono ?_
  rintro e w8 ⟨oA, oc, rfl, oh, od, oO, hb⟩
  have Ho := Lib.hid oh
  have HOo := Lib.hid oO
  clear oh oO
  have HT := Lib.hid (HT.out.below hb)
  have HE := Lib.hid (HE.out.below hb)
  have HW := Lib.hid (HW.out.below hb)
  have HSl := Lib.hid (HSl.out.below hb)
  have Hp := Lib.hid (Hp.out.below hb)
  have HB := Lib.hid (HB.out.trans (hb.mono HB.out.size))
  clear hb
  go_wp2_with fail
  refine (HY.out (k + 1) (by omega) w8 HT.out HE.out HW.out).mono ?_
  rintro e w9 ⟨qA, qc, rfl, qh, qd, qO, hb⟩
  have Hq := Lib.hid qh
  have HOq := Lib.hid qO
  clear qh qO
  have HT := Lib.hid (HT.out.below hb)
  have HE := Lib.hid (HE.out.below hb)
  have HW := Lib.hid (HW.out.below hb)
  have HSl := Lib.hid (HSl.out.below hb)
  have Hp := Lib.hid (Hp.out.below hb)
  have Ho := Lib.hid (Ho.out.below hb)
  have HB := Lib.hid (HB.out.trans (hb.mono HB.out.size))
  clear hb
  have HL2 := Lib.hid (HLaw.out _ _ _ rfl rfl rfl)
  generalize parseOf (setT nn fl) ((pz (k + 2)).stmt fe inner (setT nn fl)) = o2 at *
  generalize parseOf fl ((pz (k + 1)).expr fe inner fl) = o1 at *
  generalize parseOf fl ((pz (k + 1)).fn fe inner fl) = o3 at *
  obtain ⟨t2, e2⟩ := o2
  obtain ⟨t1, e1⟩ := o1
  obtain ⟨t3, e3⟩ := o3
  try simp only at *
  obtain ⟨hl1, hl2⟩ := HL2.out
  try simp only at hl1 hl2
  clear HL2 HLaw HX HY HSt
  by_cases h0 : e2 = 0
  · obtain ⟨t, bf, hbn, kkid, hy1, hx1⟩ := hl2 h0
    subst h0
    have ok2 := Lib.hid (HOp.out rfl)
    have HBi := Lib.hid (binds_any t2 ok2.out.int pA pc w9 Hp.out)
    rw [hbn] at HBi
    simp only [Option.getD_some, Option.isSome_some] at HBi
    have okt : Hid (OkT t) := Lib.hid (by
      cases bf with
      | true =>
        have h := hy1 rfl
        simp only [Prod.mk.injEq] at h
        obtain ⟨rfl, rfl⟩ := h
        exact HOq.out rfl
      | false =>
        have h := hx1 rfl
        simp only [Prod.mk.injEq] at h
        obtain ⟨rfl, rfl⟩ := h
        exact HOo.out rfl)
    have kcap := pd
    have HY1 := Lib.hid hy1
    have HX1 := Lib.hid hx1
    clear hl1 hl2 hbn hy1 hx1 HOp
    go_wp2_with fail
    refine HBi.out.mono ?_
    rintro e w10 ⟨rfl, hb0⟩
    have hbV := below_new w10 (.cells #[.string nn, .bool bf] 30)
    have hb := hb0.trans (hbV.mono hb0.size)
    obtain ⟨w11, hw11⟩ : ∃ w11, w11 = w10.alloc (.cells #[.string nn, .bool bf] 30) := ⟨_, rfl⟩
    rw [← hw11] at hb
    have HRow := Lib.hid (show w11.heap[w10.heap.size]? = some (.cells #[.string nn, .bool bf] 30 (0, 0)) by rw [hw11]; exact heap_alloc_new w10 _)
    have HT := Lib.hid (HT.out.below hb)
    have HE := Lib.hid (HE.out.below hb)
    have HW := Lib.hid (HW.out.below hb)
    have HSl := Lib.hid (HSl.out.below hb)
    have Hp := Lib.hid (Hp.out.below hb)
    have Ho := Lib.hid (Ho.out.below hb)
    have Hq := Lib.hid (Hq.out.below hb)
    have HB := Lib.hid (HB.out.trans (hb.mono HB.out.size))
    have HK := Lib.hid ((Nz.kidOf_any t2 0 pA pc a w11 Hp.out ok2.out.int kcap (by have := ok2.out.len; omega) HW.out.node).mono (fun e w' h => h.gives))
    rw [kkid] at HK
    clear hb hb0 hbV HBi
    subst hw11
    go_wp2_with fail
    refine HK.out.mono ?_
    intro e w12 hK
    obtain ⟨kA, kc, rfl, kh, -, hb⟩ := (show ∃ A c, e = .returned (.tuple #[.slice A t.length c, .int .i64 0]) ∧ HoldsN w12 A t ∧ t.length ≤ c ∧ Below _ _ w12 from hK)
    have Hk := Lib.hid kh
    have Ho2 := Lib.hid (Ho.out.below hb)
    have Hq2 := Lib.hid (Hq.out.below hb)
    have hrow := (hb.block _ (Array.getElem?_eq_some_iff.1 HRow.out).1).trans HRow.out
    have HB2 := Lib.hid (HB.out.trans (hb.mono HB.out.size))
    have r0 : w12.cell? ⟨w10.heap.size, 0, none⟩ = some (.string nn) := by simp [World.cell?, hrow]
    have r1 : w12.cell? ⟨w10.heap.size, 1, none⟩ = some (.bool bf) := by simp [World.cell?, hrow]
    clear kh HK hb hrow hK Ho Hq HB
    cases bf with
    | true =>
      have h := HY1.out rfl
      simp only [Prod.mk.injEq] at h
      obtain ⟨rfl, rfl⟩ := h
      have HQ := Lib.hid (Nz.same_any t3 t3 kA qA kc qc w12 (by have := okt.out.len; omega) (by have := okt.out.len; omega) Hk.out Hq2.out okt.out.int okt.out.int)
      rw [decide_eq_true rfl] at HQ
      clear HY1 HX1
      go_wp2_with fail
      refine HQ.out.mono ?_
      rintro e w13 ⟨rfl, hb⟩
      have HB3 := Lib.hid (HB2.out.trans (hb.mono HB2.out.size))
      clear hb HQ
      go_wp2_with fail
      go_ret
      exact ⟨rfl, HB3.out⟩
    | false =>
      have h := HX1.out rfl
      simp only [Prod.mk.injEq] at h
      obtain ⟨rfl, rfl⟩ := h
      have HQ := Lib.hid (Nz.same_any t1 t1 kA oA kc oc w12 (by have := okt.out.len; omega) (by have := okt.out.len; omega) Hk.out Ho2.out okt.out.int okt.out.int)
      rw [decide_eq_true rfl] at HQ
      clear HY1 HX1
      go_wp2_with fail
      refine HQ.out.mono ?_
      rintro e w13 ⟨rfl, hb⟩
      have HB3 := Lib.hid (HB2.out.trans (hb.mono HB2.out.size))
      clear hb HQ
      go_wp2_with fail
      go_ret
      exact ⟨rfl, HB3.out⟩
  · obtain ⟨ht, hw⟩ := hl1 h0
    subst ht
    have HBi := Lib.hid (binds_any [] (fun x hx => by simp at hx) pA pc w9 Hp.out)
    rw [show bindsN [] = none from rfl] at HBi
    simp only [Option.getD_none, Option.isSome_none] at HBi
    have q2 : (e2 != 0) = true := by simp [h0]
    clear hl1 hl2 HOp HOo HOq
    go_wp2_with fail
    refine HBi.out.mono ?_
    rintro e w10 ⟨rfl, hb⟩
    have HB := Lib.hid (HB.out.trans ((hb.trans ((below_new w10 (.cells #[.string noB, .bool false] 30)).mono hb.size)).mono HB.out.size))
    unfold noB at HB
    unfold noB
    clear hb HBi
    by_cases p1 : e1 = 0
    · have hw2 : nn = noB ∨ 0 < fl.length := hw.resolve_left (fun h => h.1 p1)
      subst p1
      by_cases p2 : nn = noB
      · have qE : nn.toList.isEmpty = true := by rw [nameE, decide_eq_true p2]
        clear hw hw2 p2
        go_wp2_with fail
        go_ret
        exact ⟨rfl, HB.out⟩
      · have qE : nn.toList.isEmpty = false := by rw [nameE, decide_eq_false p2]
        have hfp : 0 < fl.length := hw2.resolve_left p2
        have qL : (0 : Int) < (fl.length : Int) := by omega
        clear hw hw2
        go_wp2_with fail
        go_ret
        exact ⟨rfl, HB.out⟩
    · have q1 : (e1 != 0) = true := by simp [p1]
      by_cases p3 : e3 = 0
      · have hw2 : nn = noB ∨ 0 < fl.length := hw.resolve_left (fun h => h.2 p3)
        subst p3
        by_cases p2 : nn = noB
        · have qE : nn.toList.isEmpty = true := by rw [nameE, decide_eq_true p2]
          clear hw hw2 p2
          go_wp2_with fail
          go_ret
          exact ⟨rfl, HB.out⟩
        · have qE : nn.toList.isEmpty = false := by rw [nameE, decide_eq_false p2]
          have hfp : 0 < fl.length := hw2.resolve_left p2
          have qL : (0 : Int) < (fl.length : Int) := by omega
          clear hw hw2
          go_wp2_with fail
          go_ret
          exact ⟨rfl, HB.out⟩
      · have q3 : (e3 != 0) = true := by simp [p3]
        clear hw
        go_wp2_with fail
        go_ret
        exact ⟨rfl, HB.out⟩
end Go.Proofs.YtebejlnegalokaaGreatDoor
