/-
  The law NodeLeaves: true.
-/
import Derived.Test.YtbcgdkhkljeomaaDoorProg
import Derived.Test.YtbcgdkhkljeomaaDoorReg
import Derived.WalkKit
import Derived.WalkSpells
import Derived.WalkLawsBesides
import Derived.Lib.Hide
import Derived.Lib.MinMax
import Derived.Deep.QuietTactic
import Derived.BigQuiet
import Derived.OwnWalk
import Derived.Deep.AppendLies
import Derived.KernelRfl
import Derived.Test.YtbcgdkhkljeomaaDoorNdLo
set_option linter.unusedSimpArgs false
set_option linter.unusedVariables false
namespace Go.Proofs.YtbcgdkhkljeomaaDoor
open Go.RowKit

theorem show_pos {t : List Nd} (h : rightN t = true) : 0 < (showN t).size := by
  obtain ⟨r1, r2, hok, _⟩ := rightN_parts h
  have hl : t.length - 1 < t.length := by omega
  rw [showN_yes h, strB_size, showAt_eq hok hl (List.getElem?_eq_getElem hl)]
  split
  · rw [List.length_append, List.length_cons]; omega
  · rw [List.length_cons]; omega
theorem form_least {k : Int} {m : Nat} {h : Bool} (hf : formAt k = some (0, m, h)) : h = true := by
  unfold formAt at hf
  rcases ite_some hf with e | hf
  · (simp only [Prod.mk.injEq] at e; obtain ⟨e1, e2, e3⟩ := e; first | exact e3 | (exfalso; omega))
  rcases ite_some hf with e | hf
  · (simp only [Prod.mk.injEq] at e; obtain ⟨e1, e2, e3⟩ := e; first | exact e3 | (exfalso; omega))
  rcases ite_some hf with e | hf
  · (simp only [Prod.mk.injEq] at e; obtain ⟨e1, e2, e3⟩ := e; first | exact e3 | (exfalso; omega))
  rcases ite_some hf with e | hf
  · (simp only [Prod.mk.injEq] at e; obtain ⟨e1, e2, e3⟩ := e; first | exact e3 | (exfalso; omega))
  rcases ite_some hf with e | hf
  · (simp only [Prod.mk.injEq] at e; obtain ⟨e1, e2, e3⟩ := e; first | exact e3 | (exfalso; omega))
  rcases ite_some hf with e | hf
  · (simp only [Prod.mk.injEq] at e; obtain ⟨e1, e2, e3⟩ := e; first | exact e3 | (exfalso; omega))
  rcases ite_some hf with e | hf
  · (simp only [Prod.mk.injEq] at e; obtain ⟨e1, e2, e3⟩ := e; first | exact e3 | (exfalso; omega))
  rcases ite_some hf with e | hf
  · (simp only [Prod.mk.injEq] at e; obtain ⟨e1, e2, e3⟩ := e; first | exact e3 | (exfalso; omega))
  rcases ite_some hf with e | hf
  · (simp only [Prod.mk.injEq] at e; obtain ⟨e1, e2, e3⟩ := e; first | exact e3 | (exfalso; omega))
  rcases ite_some hf with e | hf
  · (simp only [Prod.mk.injEq] at e; obtain ⟨e1, e2, e3⟩ := e; first | exact e3 | (exfalso; omega))
  rcases ite_some hf with e | hf
  · (simp only [Prod.mk.injEq] at e; obtain ⟨e1, e2, e3⟩ := e; first | exact e3 | (exfalso; omega))
  rcases ite_some hf with e | hf
  · (simp only [Prod.mk.injEq] at e; obtain ⟨e1, e2, e3⟩ := e; first | exact e3 | (exfalso; omega))
  rcases ite_some hf with e | hf
  · (simp only [Prod.mk.injEq] at e; obtain ⟨e1, e2, e3⟩ := e; first | exact e3 | (exfalso; omega))
  rcases ite_some hf with e | hf
  · (simp only [Prod.mk.injEq] at e; obtain ⟨e1, e2, e3⟩ := e; first | exact e3 | (exfalso; omega))
  cases hf
theorem form_text {x : Nd} (h : formOk x = true) (hk : x.kids = []) : 0 < x.text.size := by
  unfold formOk at h
  split at h
  · cases h
  · rename_i a b c hf
    simp only [Bool.and_eq_true, decide_eq_true_eq, beq_iff_eq, hk, List.length_nil] at h
    obtain ⟨⟨h1, _⟩, h3⟩ := h
    obtain rfl : a = 0 := by omega
    rw [form_least hf] at h3
    exact of_decide_eq_true h3
theorem leaf_is {kind : Int} {text : ByteArray} {out : List Nd} (h : joinN kind text [] = some out) : out = [⟨kind, text, []⟩] ∧ 0 < text.size ∧ deepN out = 1 ∧ kidN out 0 = none ∧ rightN out = true := by
  have hJ := joined_is h
  obtain ⟨e, _, _⟩ := joinN_eq h
  have e2 : out = [⟨kind, text, []⟩] := e
  refine ⟨e2, ?_, hJ.deep, hJ.none, hJ.right⟩
  obtain ⟨_, _, hok, _⟩ := rightN_parts hJ.right
  exact form_text (nodesOk_at hok (j := 0) (by rw [e2]; rfl)).2 rfl

set_option maxRecDepth 100000 in
set_option maxHeartbeats 8000000 in
theorem nodeLeaves_any (kind : Int) (s : ByteArray) (a : Addr) (w : World) (hk : (Lit.int .i64 kind).wf = true) (hs : s.size ≤ maxLen) (he : errNodeAt a w) :
    Calls Tryd.prog 5 #[.int .i64 kind, .string s] w fun e w' => e = .returned (.bool true) ∧ Below w.heap.size w w' := by
  have HS := Lib.hid (shown_any a w he)
  have HCu := Lib.hid (fun u => cut_any s u hs)
  have hcs := cut_size s
  have HLe := Lib.hid (fun u (hu : errNodeAt a u) => leafC kind (cut50 s) a u hk hcs hu)
  generalize cut50 s = cs at *
  have hcs2 : (cs.size : Int) ≤ 50 := by omega
  go_enter Tryd.func5, Tryd.ntmps5
  go_wp2_with fail
  refine HS.out.mono ?_
  rintro e w1 ⟨rfl, hb1⟩
  have he1 := err_below he hb1
  clear HS he
  go_wp2_with fail
  refine (HCu.out w1).mono ?_
  rintro e w1' ⟨rfl, rfl⟩
  cases hj : joinN kind cs [] with
  | none =>
    have HG := HLe.out _ he1
    rw [hj] at HG
    unfold Gives outOf codeO at HG
    simp only [Option.getD_none, Option.isSome_none, List.length_nil, Bool.false_eq_true, if_false] at HG
    have HG2 := Lib.hid HG
    clear HG hj HLe
    go_wp2_with fail
    refine HG2.out.mono ?_
    rintro e w2 ⟨D, e2, rfl, -, -, hb2⟩
    have B2 := Lib.hid (hb1.trans (hb2.mono hb1.size))
    clear hb1 hb2
    go_wp2_with fail
    go_ret
    exact ⟨rfl, B2.out⟩
  | some out =>
    obtain ⟨e1, hpos, hd, hkn, hr⟩ := leaf_is hj
    have HG := HLe.out _ he1
    rw [hj] at HG
    unfold Gives outOf codeO at HG
    simp only [Option.getD_some, Option.isSome_some, if_true] at HG
    have hi : IntN out := join_int hj (by omega) (fun t ht => by simp at ht)
    have hlen : out.length = 1 := by rw [e1]; rfl
    have HG2 := Lib.hid HG
    clear HG hj HLe
    have hsp := show_pos hr
    have HKi := Lib.hid (fun u B q (hu : errNodeAt a u) hB hq => kidC out 0 B q a u hB hi hq (by omega) hu)
    have HDe := Lib.hid (fun u B q hB => deep_any out B q u hB hi)
    have HSh := Lib.hid (fun u B q hB => showAll_any out B q u hB hi)
    unfold Gives at HKi
    rw [hkn] at HKi
    rw [hd] at HDe
    simp only [outOf, codeO, Option.getD_none, Option.isSome_none, List.length_nil, Bool.false_eq_true, if_false] at HKi
    rw [hlen] at HKi HDe HSh HG2
    generalize showN out = sh at *
    have q1 := empty_not hsp
    have q2 := empty_not hpos
    clear hd hkn hr hi hsp
    go_wp2_with fail
    refine HG2.out.mono ?_
    rintro e w2 ⟨D, e2, rfl, hD, z2, hb2⟩
    have he2 := err_below he1 hb2
    have B2 := Lib.hid (hb1.trans (hb2.mono hb1.size))
    clear hb1 hb2 he1 HG2
    go_wp2_with fail
    refine (HKi.out w2 D e2 he2 hD z2).mono ?_
    rintro e w3 ⟨D3, e3, rfl, -, -, hb3⟩
    have hD3 := hD.below hb3
    have B3 := Lib.hid (B2.out.trans (hb3.mono B2.out.size))
    clear hb3 HKi hD he2 B2
    have hD3' := Lib.hid hD3
    obtain ⟨b, off, rfl, c0, c1, B, c', c2, -, -⟩ := hD3 0 _ (by rw [e1]; rfl)
    simp only [Nat.zero_mul, Nat.add_zero, List.length_nil] at c0 c1 c2
    have q3 := bytes_beq_yes (rfl : cs = cs)
    have HDe3 := Lib.hid (HDe.out w3 (some ⟨b, off, none⟩) e2 hD3'.out)
    clear HDe
    go_wp2_with fail
    refine HDe3.out.mono ?_
    rintro e w4 ⟨rfl, hb4⟩
    have B4 := Lib.hid (B3.out.trans (hb4.mono B3.out.size))
    have HSh4 := Lib.hid (HSh.out w4 (some ⟨b, off, none⟩) e2 (hD3'.out.below hb4))
    clear HSh hb4 B3
    go_wp2_with fail
    refine HSh4.out.mono ?_
    rintro e w5 ⟨rfl, hb5⟩
    have B5 := Lib.hid (B4.out.trans (hb5.mono B4.out.size))
    go_wp2_with fail
    go_ret
    exact ⟨rfl, B5.out⟩
end Go.Proofs.YtbcgdkhkljeomaaDoor
