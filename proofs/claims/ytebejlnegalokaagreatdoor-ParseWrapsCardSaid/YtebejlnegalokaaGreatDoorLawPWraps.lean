/-
  The law ParseWraps: true.
-/
import Derived.Test.YtebejlnegalokaaGreatDoorProg
import Derived.Test.YtebejlnegalokaaGreatDoorReg
import Derived.WalkKit
import Derived.WalkSpells
import Derived.WalkLawsBesides
import Derived.Lib.Hide
import Derived.Lib.MinMax
import Derived.Deep.QuietTactic
import Derived.BigQuiet
import Derived.OwnWalk
import Derived.Deep.AppendLies
import Derived.KernelRfl
import Derived.Test.YtebejlnegalokaaGreatDoorPw9
import Derived.Test.YtebejlnegalokaaGreatDoorPaZ
set_option linter.unusedSimpArgs false
set_option linter.unusedVariables false
namespace Go.Proofs.YtebejlnegalokaaGreatDoor
open Go Go.RowKit Go.Maps
open Gz (Tok HoldsT mildT)
open Nz (Nd HoldsN IntN)

theorem fewE_sWraps (l : List Bd) : (fewE l).length ≤ 1000 := by unfold fewE; have := fewToE_len l 40; omega
theorem few_sWraps (l : List Tok) : (Gz.few l).length ≤ 60 ∧ ∀ x ∈ Gz.few l, x.text.size ≤ 1000 ∧ x.glyph.size ≤ 1000 := by
  refine ⟨by unfold Gz.few Gz.fewTo; rw [List.length_map, List.length_take]; omega, fun x hx => ?_⟩
  unfold Gz.few Gz.fewTo at hx
  obtain ⟨y, _, rfl⟩ := List.mem_map.1 hx
  unfold Gz.few1 Gz.cut300
  simp only [ByteArray.size_extract]
  omega

set_option maxRecDepth 100000 in
set_option maxHeartbeats 8000000 in
/-- Tokens in parentheses. -/
theorem wrap_any (A : Option Addr) (c : Nat) (fl : List Tok) (w : World) (hfl : fl.length ≤ 60) (hT : HoldsT w A fl) :
    Calls Tryz.prog 20 #[.slice A fl.length c] w fun e w' => ∃ B d, e = .returned (.slice B (wrapT fl).length d) ∧ HoldsT w' B (wrapT fl) ∧ (wrapT fl).length ≤ d ∧ Below w.heap.size w w' := by
  have hbK := below_new w (.cells #[.int .i64 8, .string ⟨#[40]⟩, .string ⟨#[40]⟩] 37)
  have hg := heap_alloc_new w (.cells #[.int .i64 8, .string ⟨#[40]⟩, .string ⟨#[40]⟩] 37)
  obtain ⟨A5, c5, w5, hr5, ho5, hg5⟩ := push_toks (W := w.alloc (.cells #[.int .i64 8, .string ⟨#[40]⟩, .string ⟨#[40]⟩] 37)) (base := w.heap.size) (l := []) (m := [tPar]) (B := some ⟨w.heap.size, 0, none⟩) (d := 1) (World.ownsRow_nil _ _ _ _) (one_tok (x := tPar) hg) (by simp) (by simp) hbK.size
  have hb5 := hbK.grown hg5 hbK.size (fun k e => by simp [Value.ownBlock] at e)
  obtain ⟨A6, c6, w6, hr6, ho6, hg6⟩ := push_toks (W := w5) (base := w.heap.size) (l := [] ++ [tPar]) (m := fl) (B := A) (d := c) ho5 (hT.below hb5) (by simp) (by omega) hb5.size
  have hb6 := hb5.grown hg6 hb5.size (fun k e => Gz.ownBlock_ge ho5 k e)
  have hbK2 := below_new w6 (.cells #[.int .i64 8, .string ⟨#[41]⟩, .string ⟨#[41]⟩] 37)
  have hg7 := heap_alloc_new w6 (.cells #[.int .i64 8, .string ⟨#[41]⟩, .string ⟨#[41]⟩] 37)
  have hb7 := hb6.trans (hbK2.mono hb6.size)
  obtain ⟨A8, c8, w8, hr8, ho8, hg8⟩ := push_toks (W := w6.alloc (.cells #[.int .i64 8, .string ⟨#[41]⟩, .string ⟨#[41]⟩] 37)) (base := w.heap.size) (l := [] ++ [tPar] ++ fl) (m := [tPas]) (B := some ⟨w6.heap.size, 0, none⟩) (d := 1) (Gz.own_below ho6 hbK2) (one_tok (x := tPas) hg7) (by simp; omega) (by simp) hb7.size
  have hb8 := hb7.grown hg8 hb7.size (fun k e => Gz.ownBlock_ge ho6 k e)
  obtain ⟨A9, c9, e9, -, hS0, hSc⟩ := Gz.holdsT_of_own ho8
  simp only [Value.slice.injEq] at e9
  obtain ⟨rfl, -, rfl⟩ := e9
  have hS : HoldsT w8 A8 (wrapT fl) := hS0
  have hsc : (wrapT fl).length ≤ c8 := hSc
  have hsl : (wrapT fl).length = 1 + fl.length + 1 := by rw [wrap_len]; omega
  simp only [List.length_nil, List.length_cons, List.length_append, Nat.zero_add] at hr5 hr6 hr8
  have HS := Lib.hid hS
  have HB := Lib.hid hb8
  rw [hsl] at hsc ⊢
  have tok1 : True := trivial
  have tok2 : True := trivial
  clear hbK hg ho5 hg5 hb5 ho6 hg6 hb6 hbK2 hg7 hb7 ho8 hg8 hb8 hS0 hS hSc hT hsl
  go_enter Tryz.func20, Tryz.ntmps20
  go_wp2_with (first | (at_builtin; have _t := tok1; go_must (refine Nz.wpList_append_run rfl _ _ 34 34 rfl rfl rfl hr5 ?_); clear tok1) | (at_builtin; have _t := tok2; go_must (refine Nz.wpList_append_run rfl _ _ 34 34 rfl rfl rfl hr6 ?_); clear tok2) | (at_builtin; go_must (refine Nz.wpList_append_run rfl _ _ 34 34 rfl rfl rfl hr8 ?_)))
  go_ret
  exact ⟨A8, c8, rfl, HS.out, hsc, HB.out⟩

set_option maxRecDepth 100000 in
set_option maxHeartbeats 32000000 in
theorem parseWraps_any (a b : Addr) (TA : Option Addr) (ct : Nat) (l : List Tok) (EA : Option Addr) (ce : Nat) (env : List Bd) (inner : Bool) (w : World) (hle0 : l.length ≤ maxLen) (hsl : ∀ k ∈ l, k.text.size ≤ maxLen ∧ k.glyph.size ≤ maxLen) (hT0 : HoldsT w TA l) (hle : env.length ≤ maxLen) (hse : ∀ x ∈ env, x.name.size ≤ maxLen) (hE0 : HoldsE w EA env) (hw : WOk a b w) :
    Calls Tryz.prog 6 #[.slice TA l.length ct, .slice EA env.length ce, .bool inner] w fun e w' => e = .returned (.bool true) ∧ Below w.heap.size w w' := by
  have HS := Lib.hid (shown_any a b w hw)
  have HL := Lib.hid (fun W (h : HoldsT W TA l) => Gz.few_any TA ct l W hle0 (fun k x hx => hsl x (List.mem_of_getElem? hx)) h)
  have HF := Lib.hid (fun W (h : HoldsE W EA env) => Few_any EA ce env W hle hse h)
  have hfs := fewE_sWraps env
  obtain ⟨hfl, hfz⟩ := few_sWraps l
  have hfm : mildT (Gz.few l) := ⟨by omega, fun k x hx => by have := hfz x (List.mem_of_getElem? hx); omega⟩
  have HT := Lib.hid hT0
  have HE := Lib.hid hE0
  have HW := Lib.hid hw
  clear hw hle0 hsl hT0 hle hse hE0
  generalize fewE env = fe at *
  generalize Gz.few l = fl at *
  go_enter Tryz.func6, Tryz.ntmps6
  go_wp2_with fail
  refine HS.out.mono ?_
  rintro e w1 ⟨rfl, hb⟩
  have HB := Lib.hid hb
  have HT := Lib.hid (HT.out.below hb)
  have HE := Lib.hid (HE.out.below hb)
  have HW := Lib.hid (HW.out.below hb)
  clear hb
  go_wp2_with fail
  refine (HL.out w1 HT.out).mono ?_
  rintro e w2 ⟨A2, c2, rfl, h2, hc2, hb⟩
  have HT := Lib.hid h2
  have HB := Lib.hid (HB.out.trans (hb.mono HB.out.size))
  have HE := Lib.hid (HE.out.below hb)
  have HW := Lib.hid (HW.out.below hb)
  clear hb h2
  go_wp2_with fail
  refine (HF.out w2 HE.out).mono ?_
  rintro e w3 ⟨A3, c3, rfl, h3, hc3, hb⟩
  have HE := Lib.hid h3
  have HB := Lib.hid (HB.out.trans (hb.mono HB.out.size))
  have HT := Lib.hid (HT.out.below hb)
  have HW := Lib.hid (HW.out.below hb)
  clear hb h3
  have HX := Lib.hid (fun k (hk : 202 ≤ k) W (h : HoldsT W A2 fl) (h' : HoldsE W A3 fe) (v : WOk a b W) => Expr_k k a b A3 c3 fe inner A2 c2 fl W hfm hfz hc2 h h' hc3 hfs v (fun h0 => by have := (check_toks h0).2.2; omega))
  have HY := Lib.hid (fun k (hk : 202 ≤ k) W (h : HoldsT W A2 fl) (h' : HoldsE W A3 fe) (v : WOk a b W) => Fun_k k a b A3 c3 fe inner A2 c2 fl W hfm hfz hc2 h h' hc3 hfs v (fun h0 => by have := (check_toks h0).2.2; omega))
  obtain ⟨k, hk0⟩ : ∃ k : Nat, 206 ≤ k + 1 ∧ 206 ≤ k + 2 := ⟨298, by omega, by omega⟩
  obtain ⟨hk1, hk2⟩ := hk0
  have HLaw := Lib.hid (fun e f g h => wraps_law_p k fe inner hfl e f g h)
  have hsz : ∀ x ∈ wrapT fl, x.text.size ≤ 1000 ∧ x.glyph.size ≤ 1000 := fun x hx => by
    unfold wrapT at hx
    rcases List.mem_append.1 hx with hx | hx
    · rcases List.mem_cons.1 hx with rfl | hx
      · decide
      · exact hfz x hx
    · cases List.mem_singleton.1 hx
      decide
  have hsm : mildT (wrapT fl) := ⟨by have := wrap_len fl; omega, fun k x hx => by have := hsz x (List.mem_of_getElem? hx); omega⟩
  have HWr := Lib.hid (fun W (h : HoldsT W A2 fl) => wrap_any A2 c2 fl W hfl h)
  go_wp2_with fail
  refine (HX.out (k + 1) (by omega) w3 HT.out HE.out HW.out).mono ?_
  rintro e w4 ⟨oA, oc, rfl, oh, od, oO, hb⟩
  have Ho := Lib.hid oh
  have HOo := Lib.hid oO
  clear oh oO
  have HT := Lib.hid (HT.out.below hb)
  have HE := Lib.hid (HE.out.below hb)
  have HW := Lib.hid (HW.out.below hb)
  have HB := Lib.hid (HB.out.trans (hb.mono HB.out.size))
  clear hb
  go_wp2_with fail
  refine (HWr.out w4 HT.out).mono ?_
  rintro e w5 ⟨A5, c5, rfl, h5, hc5, hb⟩
  have HS5 := Lib.hid h5
  clear h5
  have HT := Lib.hid (HT.out.below hb)
  have HE := Lib.hid (HE.out.below hb)
  have HW := Lib.hid (HW.out.below hb)
  have Ho := Lib.hid (Ho.out.below hb)
  have HB := Lib.hid (HB.out.trans (hb.mono HB.out.size))
  clear hb
  have HXs := Lib.hid (Expr_k (k + 2) a b A3 c3 fe inner A5 c5 (wrapT fl) w5 hsm hsz hc5 HS5.out HE.out hc3 hfs HW.out (fun h0 => by have := (check_toks h0).2.2; omega))
  go_wp2_with fail
  refine (HXs.out).mono ?_
  rintro e w6 ⟨pA, pc, rfl, ph, pd, pO, hb⟩
  have Hp := Lib.hid ph
  have HOp := Lib.hid pO
  clear ph pO
  have HT := Lib.hid (HT.out.below hb)
  have HE := Lib.hid (HE.out.below hb)
  have HW := Lib.hid (HW.out.below hb)
  have Ho := Lib.hid (Ho.out.below hb)
  have HB := Lib.hid (HB.out.trans (hb.mono HB.out.size))
  clear hb
  clear HXs HS5
  go_wp2_with fail
  refine (HY.out (k + 1) (by omega) w6 HT.out HE.out HW.out).mono ?_
  rintro e w7 ⟨qA, qc, rfl, qh, qd, qO, hb⟩
  have Hq := Lib.hid qh
  have HOq := Lib.hid qO
  clear qh qO
  have HT := Lib.hid (HT.out.below hb)
  have HE := Lib.hid (HE.out.below hb)
  have HW := Lib.hid (HW.out.below hb)
  have Ho := Lib.hid (Ho.out.below hb)
  have Hp := Lib.hid (Hp.out.below hb)
  have HB := Lib.hid (HB.out.trans (hb.mono HB.out.size))
  clear hb
  go_wp2_with fail
  refine (HWr.out w7 HT.out).mono ?_
  rintro e w8 ⟨A8, c8, rfl, h8, hc8, hb⟩
  have HS8 := Lib.hid h8
  clear h8
  have HT := Lib.hid (HT.out.below hb)
  have HE := Lib.hid (HE.out.below hb)
  have HW := Lib.hid (HW.out.below hb)
  have Ho := Lib.hid (Ho.out.below hb)
  have Hp := Lib.hid (Hp.out.below hb)
  have Hq := Lib.hid (Hq.out.below hb)
  have HB := Lib.hid (HB.out.trans (hb.mono HB.out.size))
  clear hb
  have HYs := Lib.hid (Fun_k (k + 2) a b A3 c3 fe inner A8 c8 (wrapT fl) w8 hsm hsz hc8 HS8.out HE.out hc3 hfs HW.out (fun h0 => by have := (check_toks h0).2.2; omega))
  go_wp2_with fail
  refine (HYs.out).mono ?_
  rintro e w9 ⟨rA, rc, rfl, rh, rd, rO, hb⟩
  have Hr := Lib.hid rh
  have HOr := Lib.hid rO
  clear rh rO
  have HT := Lib.hid (HT.out.below hb)
  have HE := Lib.hid (HE.out.below hb)
  have HW := Lib.hid (HW.out.below hb)
  have Ho := Lib.hid (Ho.out.below hb)
  have Hp := Lib.hid (Hp.out.below hb)
  have Hq := Lib.hid (Hq.out.below hb)
  have HB := Lib.hid (HB.out.trans (hb.mono HB.out.size))
  clear hb
  have HL2 := Lib.hid (HLaw.out _ _ _ _ rfl rfl rfl rfl)
  generalize parseOf fl ((pz (k + 1)).expr fe inner fl) = o1 at *
  generalize parseOf (wrapT fl) ((pz (k + 2)).expr fe inner (wrapT fl)) = o2 at *
  generalize parseOf fl ((pz (k + 1)).fn fe inner fl) = o3 at *
  generalize parseOf (wrapT fl) ((pz (k + 2)).fn fe inner (wrapT fl)) = o4 at *
  obtain ⟨t1, e1⟩ := o1
  obtain ⟨t2, e2⟩ := o2
  obtain ⟨t3, e3⟩ := o3
  obtain ⟨t4, e4⟩ := o4
  try simp only at *
  have hl := HL2.out
  try simp only at hl
  clear HL2 HLaw HX HY HYs HS8 HWr
  rcases hl with ⟨h1, h2⟩ | ⟨h60, hl1, hl2, hl3, hl4, hl5⟩
  · subst h1 h2
    go_wp2_with fail
    go_ret
    exact ⟨rfl, HB.out⟩
  · have q60 : (e1 == 60) = false := by simp [h60]
    by_cases h0 : e1 = 0
    · have hg : e3 ≠ 0 := fun h => hl1 ⟨h0, h⟩
      have q3 : (e3 == 0) = false := by simp [hg]
      have hh : e4 ≠ 0 := hl5.resolve_left hg
      have q4 : (e4 != 0) = true := by simp [hh]
      have q4' : (e4 == 0) = false := by simp [hh]
      by_cases hf : e2 = 0
      · obtain ⟨kkid, h2, -⟩ := hl2 h0 hf
        subst h0 hf
        have ok1 := Lib.hid (HOo.out rfl)
        have ok2 := Lib.hid (HOp.out rfl)
        have i2 : ((t2.length : Int) == (t1.length : Int) + 1) = true := by simp; omega
        have hn1 : t1.length ≤ 400 := ok1.out.len
        have kcap := pd
        clear hl1 hl2 hl3 hl4 hl5 h60 h2 HOo HOp HOq HOr hg hh
        have HK := Lib.hid ((Nz.kidOf_any t2 0 pA pc a w9 Hp.out ok2.out.int kcap (by have := ok2.out.len; omega) HW.out.node).mono (fun e w' h => h.gives))
        rw [kkid] at HK
        go_wp2_with fail
        refine HK.out.mono ?_
        intro e w10 hK
        obtain ⟨kA, kc, rfl, kh, -, hb⟩ := (show ∃ A c, e = .returned (.tuple #[.slice A t1.length c, .int .i64 0]) ∧ HoldsN w10 A t1 ∧ t1.length ≤ c ∧ Below w9.heap.size w9 w10 from hK)
        have Hk := Lib.hid kh
        clear kh HK
        have HT := Lib.hid (HT.out.below hb)
        have HE := Lib.hid (HE.out.below hb)
        have HW := Lib.hid (HW.out.below hb)
        have Ho := Lib.hid (Ho.out.below hb)
        have Hp := Lib.hid (Hp.out.below hb)
        have Hq := Lib.hid (Hq.out.below hb)
        have Hr := Lib.hid (Hr.out.below hb)
        have HB := Lib.hid (HB.out.trans (hb.mono HB.out.size))
        clear hb
        have HQ := Lib.hid (Nz.same_any t1 t1 kA oA kc oc w10 (by have := ok1.out.len; omega) (by have := ok1.out.len; omega) Hk.out Ho.out ok1.out.int ok1.out.int)
        rw [decide_eq_true rfl] at HQ
        go_wp2_with fail
        refine HQ.out.mono ?_
        rintro e w11 ⟨rfl, hb⟩
        have HB := Lib.hid (HB.out.trans (hb.mono HB.out.size))
        clear hb HQ
        go_wp2_with fail
        go_ret
        exact ⟨rfl, HB.out⟩
      · have q2 : (e2 == 0) = false := by simp [hf]
        subst h0
        clear hl1 hl2 hl3 hl4 hl5
        go_wp2_with fail
        go_ret
        exact ⟨rfl, HB.out⟩
    · have q0 : (e1 == 0) = false := by simp [h0]
      have hf : e2 ≠ 0 := hl4.resolve_left h0
      have q2 : (e2 != 0) = true := by simp [hf]
      have q2' : (e2 == 0) = false := by simp [hf]
      by_cases hg : e3 = 0
      · by_cases hh : e4 = 0
        · obtain ⟨kkid, h2, -⟩ := hl3 hg hh
          subst hg hh
          have ok1 := Lib.hid (HOq.out rfl)
          have ok2 := Lib.hid (HOr.out rfl)
          have i2 : ((t4.length : Int) == (t3.length : Int) + 1) = true := by simp; omega
          have hn1 : t3.length ≤ 400 := ok1.out.len
          have kcap := rd
          clear hl1 hl2 hl3 hl4 hl5 h60 h2 HOo HOp HOq HOr hf
          have HK := Lib.hid ((Nz.kidOf_any t4 0 rA rc a w9 Hr.out ok2.out.int kcap (by have := ok2.out.len; omega) HW.out.node).mono (fun e w' h => h.gives))
          rw [kkid] at HK
          go_wp2_with fail
          refine HK.out.mono ?_
          intro e w10 hK
          obtain ⟨kA, kc, rfl, kh, -, hb⟩ := (show ∃ A c, e = .returned (.tuple #[.slice A t3.length c, .int .i64 0]) ∧ HoldsN w10 A t3 ∧ t3.length ≤ c ∧ Below w9.heap.size w9 w10 from hK)
          have Hk := Lib.hid kh
          clear kh HK
          have HT := Lib.hid (HT.out.below hb)
          have HE := Lib.hid (HE.out.below hb)
          have HW := Lib.hid (HW.out.below hb)
          have Ho := Lib.hid (Ho.out.below hb)
          have Hp := Lib.hid (Hp.out.below hb)
          have Hq := Lib.hid (Hq.out.below hb)
          have Hr := Lib.hid (Hr.out.below hb)
          have HB := Lib.hid (HB.out.trans (hb.mono HB.out.size))
          clear hb
          have HQ := Lib.hid (Nz.same_any t3 t3 kA qA kc qc w10 (by have := ok1.out.len; omega) (by have := ok1.out.len; omega) Hk.out Hq.out ok1.out.int ok1.out.int)
          rw [decide_eq_true rfl] at HQ
          go_wp2_with fail
          refine HQ.out.mono ?_
          rintro e w11 ⟨rfl, hb⟩
          have HB := Lib.hid (HB.out.trans (hb.mono HB.out.size))
          clear hb HQ
          go_wp2_with fail
          go_ret
          exact ⟨rfl, HB.out⟩
        · have q4 : (e4 == 0) = false := by simp [hh]
          have q4' : (e4 != 0) = true := by simp [hh]
          subst hg
          clear hl1 hl2 hl3 hl4 hl5
          go_wp2_with fail
          go_ret
          exact ⟨rfl, HB.out⟩
      · have q3 : (e3 == 0) = false := by simp [hg]
        have hh : e4 ≠ 0 := hl5.resolve_left hg
        have q4 : (e4 != 0) = true := by simp [hh]
        have q4' : (e4 == 0) = false := by simp [hh]
        clear hl1 hl2 hl3 hl4 hl5
        go_wp2_with fail
        go_ret
        exact ⟨rfl, HB.out⟩
end Go.Proofs.YtebejlnegalokaaGreatDoor
