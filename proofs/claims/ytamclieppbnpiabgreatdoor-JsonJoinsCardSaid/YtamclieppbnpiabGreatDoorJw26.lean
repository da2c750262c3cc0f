/-
  A text's text: by the document's program text.
-/
import Derived.Test.YtamclieppbnpiabGreatDoorProg
import Derived.Test.YtamclieppbnpiabGreatDoorReg
import Derived.WalkKit
import Derived.WalkSpells
import Derived.WalkLawsBesides
import Derived.Lib.Hide
import Derived.Lib.MinMax
import Derived.Deep.QuietTactic
import Derived.BigQuiet
import Derived.OwnWalk
import Derived.Deep.AppendLies
import Derived.KernelRfl
import Derived.Laws.RangeAny
import Derived.Laws.IdiomStrings
import Derived.Laws.OwnMore
import Derived.Deep.RegionLaw
import Derived.Deep.RegionWith
import Derived.Test.YtamclieppbnpiabGreatDoorJw12
import Derived.Test.YtamclieppbnpiabGreatDoorJw14
import Derived.Deep.Cut
import Derived.Deep.CutRange
import Derived.Deep.CutBlock
import Derived.Test.YtamclieppbnpiabGreatDoorJw18
import Derived.Test.YtamclieppbnpiabGreatDoorJw25
import Derived.Test.YtamclieppbnpiabGreatDoorJw21
set_option linter.unusedSimpArgs false
set_option linter.unusedVariables false
namespace Go.Proofs.YtamclieppbnpiabGreatDoor
open Go Go.RowKit Go.Sort Go.Shelf
open Fz (HoldsS)
open Lz (wpList_append_run wp_append_run)

theorem byteCells_length (l : List UInt8) : (Lib.byteCells l).length = l.length := Lib.byteCells_length l
theorem push_bytes {W : World} {base : Nat} {v : Value} {l xs : List UInt8} {g : Nat} (hg : W.heap[g]? = some (.cells (Lib.byteCells xs).toArray tU (0, 0))) (hown : W.ownsRow base tU 1 v l.length (Lib.byteCells l)) (hl : l.length + xs.length ≤ 1000000000000) (hx : 0 < xs.length) (hbase : base ≤ W.heap.size) :
    ∃ g' c w', (Builtin.append_ #[71, 71] 71 #[v, .slice (some ⟨g, 0, none⟩) xs.length xs.length]).run Tryz.prog W = .ok (.slice (some ⟨g', 0, none⟩) (l ++ xs).length c) w' ∧ w'.ownsRow base tU 1 (.slice (some ⟨g', 0, none⟩) (l ++ xs).length c) (l ++ xs).length (Lib.byteCells (l ++ xs)) ∧ W.grownBy w' v.ownBlock ∧
      (convert 71 9 (.slice (some ⟨g', 0, none⟩) (l ++ xs).length c)).run Tryz.prog w' = .ok (.string (bs (l ++ xs))) w' := by
  obtain ⟨i0, hi0, hz0, hz1, hz2⟩ := info_parts infoU
  obtain ⟨v', w', hr, ho, hgr, _, hnew⟩ := run_append_own_at (P := Tryz.prog) W base 71 71 tU i0 _ 1 1 Tryz.underlying71 hi0 hz0 hz1 hz2 rfl (by decide) v l.length (Lib.byteCells l) hown ⟨g, 0, none⟩ xs.length xs.length (Lib.byteCells xs) (by rw [byteCells_length, Nat.mul_one])
    (World.news_of_block (cs := (Lib.byteCells xs).toArray) (t := tU) (fr := (0, 0)) hg) (fun u hu => by
      unfold Lib.byteCells at hu
      obtain ⟨b, _, rfl⟩ := List.mem_map.1 hu
      rfl) (by unfold maxLen; omega) (by omega) hbase
  rw [← byteCells_app, ← List.length_append] at ho
  obtain ⟨A, c, rfl, hc, hgA⟩ := own_form ho
  obtain ⟨g', rfl, _, _, hcell⟩ := hgA (by rw [List.length_append]; omega)
  refine ⟨g', c, w', hr, ho, hgr, ?_⟩
  exact run_convert_bytes_back (P := Tryz.prog) w' 71 9 5 ⟨g', 0, none⟩ c (l ++ xs) Tryz.underlying71 Tryz.underlying5 Tryz.underlying9 (fun j hj => by
    rw [add_lit]
    exact hcell j _ (by unfold Lib.byteCells; rw [List.getElem?_map, List.getElem?_eq_getElem hj]; rfl))
theorem flat_step {l : List UInt8} {k : Nat} {c : UInt8} (h : l[k]? = some c) : (l.drop k).flatMap escB = escB c ++ (l.drop (k + 1)).flatMap escB := by
  obtain ⟨hk, rfl⟩ := List.getElem?_eq_some_iff.1 h
  rw [List.drop_eq_getElem_cons hk, List.flatMap_cons]

end Go.Proofs.YtamclieppbnpiabGreatDoor
/-
  Numbers' digits, runes' bytes: by the document's program text.
-/
namespace Go.Proofs.YtamclieppbnpiabGreatDoor
open Go Go.RowKit Go.Sort Go.Shelf
open Fz (HoldsS)

theorem digits_low {u : Nat} (h : u < 10) : Lib.decDigits u = [UInt8.ofNat (48 + u)] := Lib.decDigits_one h
theorem digits_high {u : Nat} (h : ¬ u < 10) : Lib.decDigits u = Lib.decDigits (u / 10) ++ Lib.decDigits (u % 10) := by
  rw [Lib.decDigits_one (Nat.mod_lt u (by omega))]
  conv => lhs; rw [Lib.decDigits, dif_neg h]
theorem digits_len {u : Nat} (h : u ≤ 9223372036854775808) : (Lib.decDigits u).length ≤ 21 := by
  by_cases h2 : u ≤ 9223372036854775807
  · have := Lib.itoa_length_le (u : Int) (by omega) (by omega)
    rwa [Lib.itoa_nonneg] at this
  · obtain rfl : u = 9223372036854775808 := by omega
    have := Lib.itoa_length_le (-((9223372036854775808 : Nat) : Int)) (by omega) (by omega)
    rw [Lib.itoa_neg _ (by omega)] at this
    simp only [List.length_cons] at this
    omega
theorem one_cell (w : World) (a : UInt8) : ∀ j (hj : j < [a].length), (w.alloc (.cells #[.int .u8 a.toNat] tU)).cell? ((⟨w.heap.size, 0, none⟩ : Addr).add j) = some (.int .u8 ([a][j].toNat : Int)) := by
  intro j hj
  have h := heap_alloc_new w (.cells #[.int .u8 a.toNat] tU)
  rw [addr_add0']
  match j, hj with
  | 0, _ => rw [Lib.cell_of_heap h]; rfl
/-- The high minus. -/
def highL : List UInt8 := [194, 175]
end Go.Proofs.YtamclieppbnpiabGreatDoor
/-
  Which values are right: by the document's program text.
-/
namespace Go.Proofs.YtamclieppbnpiabGreatDoor
open Go Go.RowKit Go.Sort Go.Shelf
open Fz (HoldsS)

def isY (v : Js) : Bool := if v.kind = 1 then v.yes else false
def isN (v : Js) : Int := if v.kind = 2 then v.n else 0
def isS (v : Js) : ByteArray := if v.kind = 3 then v.s else ByteArray.empty
def isK (v : Js) : Nat := if v.kind = 5 then v.keys.length else 0
def isL (v : Js) : Nat := if v.kind = 4 ∨ v.kind = 5 then v.l.length else 0
theorem valid_empty : validB ByteArray.empty = true := by unfold validB; exact Lib.validD_nil
theorem own_ref {d : Nat} {v : Js} (h : v.kind = 0 ∨ v.kind = 1 ∨ v.kind = 2 ∨ v.kind = 3 ∨ v.kind = 4 ∨ v.kind = 5) :
    ownJ d v = (!(decide (d < 1) && decide (v.kind = 4 ∨ v.kind = 5)) && decide (isL v = v.l.length) && decide (isK v = v.keys.length) && decide (isY v = v.yes) && decide (isN v = v.n) && decide (isS v = v.s) && validB v.s && keysOk v.keys && !(decide (v.kind = 5) && decide (v.keys.length ≠ v.l.length))) := by
  have ke : keysOk [] = true := rfl
  have hk0 : v.keys = [] → keysOk v.keys = true := fun h => by rw [h]; rfl
  have e1 : (0 = v.l.length) = (v.l = []) := propext ⟨fun h => List.length_eq_zero_iff.1 h.symm, fun h => by rw [h]; rfl⟩
  have e2 : (0 = v.keys.length) = (v.keys = []) := propext ⟨fun h => List.length_eq_zero_iff.1 h.symm, fun h => by rw [h]; rfl⟩
  have e3 : (0 = v.n) = (v.n = 0) := propext ⟨Eq.symm, Eq.symm⟩
  have e4 : (ByteArray.empty = v.s) = (v.s = ByteArray.empty) := propext ⟨Eq.symm, Eq.symm⟩
  have e5 : (0 < d) = ¬ d = 0 := by rw [eq_iff_iff]; omega
  have hs0 : v.s = ByteArray.empty → validB v.s = true := fun h => by rw [h]; exact valid_empty
  rw [Bool.eq_iff_iff]
  unfold isY isN isS isK isL
  rcases h with h | h | h | h | h | h
  · rw [own_k0 h]
    unfold plJ baJ
    simp only [h, e1, e2, e3, e4, e5, Bool.and_eq_true, decide_eq_true_eq, Bool.not_eq_true', if_true, if_false, List.length_eq_zero_iff]
    simp [e1, e2, e3, e4, e5]
    first | (constructor <;> (intro hh; simp_all; done)) | (intros; simp_all; done)
  · rw [own_k1 h]
    unfold plJ
    simp only [h, e1, e2, e3, e4, e5, Bool.and_eq_true, decide_eq_true_eq, Bool.not_eq_true', if_true, if_false, List.length_eq_zero_iff]
    simp [e1, e2, e3, e4, e5]
    first | (constructor <;> (intro hh; simp_all; done)) | (intros; simp_all; done)
  · rw [own_k2 h]
    unfold plJ
    simp only [h, e1, e2, e3, e4, e5, Bool.and_eq_true, decide_eq_true_eq, Bool.not_eq_true', if_true, if_false, List.length_eq_zero_iff]
    simp [e1, e2, e3, e4, e5]
    first | (constructor <;> (intro hh; simp_all; done)) | (intros; simp_all; done)
  · rw [own_k3 h]
    unfold plJ
    simp only [h, e1, e2, e3, e4, e5, Bool.and_eq_true, decide_eq_true_eq, Bool.not_eq_true', if_true, if_false, List.length_eq_zero_iff]
    simp [e1, e2, e3, e4, e5]
    first | (constructor <;> (intro hh; simp_all; done)) | (intros; simp_all; done)
  · rw [own_k4 h]
    unfold baJ
    simp only [h, e1, e2, e3, e4, e5, Bool.and_eq_true, decide_eq_true_eq, Bool.not_eq_true', if_true, if_false, List.length_eq_zero_iff]
    simp [e1, e2, e3, e4, e5]
    first | (constructor <;> (intro hh; simp_all; done)) | (intros; simp_all; done)
  · rw [own_k5 h]
    unfold baJ
    simp only [h, e1, e2, e3, e4, e5, Bool.and_eq_true, decide_eq_true_eq, Bool.not_eq_true', if_true, if_false, List.length_eq_zero_iff]
    simp [e1, e2, e3, e4, e5]
    first | (constructor <;> (intro hh; simp_all; done)) | (intros; simp_all; done)

end Go.Proofs.YtamclieppbnpiabGreatDoor
/-
  Values' texts: by the document's program text.
-/
namespace Go.Proofs.YtamclieppbnpiabGreatDoor
open Go Go.RowKit Go.Sort Go.Shelf
open Fz (HoldsS)

theorem sep_snoc : ∀ (a : List (List UInt8)) (x : List UInt8), a ≠ [] → sepL (a ++ [x]) = sepL a ++ 44 :: x
  | [y], x, _ => by simp [sepL]
  | y :: z :: a, x, _ => by
    have := sep_snoc (z :: a) x (by simp)
    rw [List.cons_append, List.cons_append, sep_cons, sep_cons, ← List.cons_append, this]
    simp
  | [], x, h => absurd rfl h
theorem sep_take {P : List (List UInt8)} {k : Nat} {p : List UInt8} (h : P[k]? = some p) : sepL (P.take (k + 1)) = if k = 0 then p else sepL (P.take k) ++ 44 :: p := by
  rw [List.take_add_one, h]
  by_cases h0 : k = 0
  · subst h0; simp [sepL]
  · rw [if_neg h0]
    refine sep_snoc _ _ (fun e => ?_)
    have hk := (List.getElem?_eq_some_iff.1 h).1
    have := congrArg List.length e
    rw [List.length_take] at this
    simp only [List.length_nil] at this
    omega
theorem sep_take_len (P : List (List UInt8)) (k : Nat) : (sepL (P.take k)).length ≤ (sepL P).length := by
  by_cases hk : k < P.length
  · obtain ⟨a, b, h1, h2⟩ : ∃ a b, P = a ++ b ∧ P.take k = a := ⟨P.take k, P.drop k, (List.take_append_drop k P).symm, rfl⟩
    rw [h2, h1]
    clear h1 h2 hk
    induction a with
    | nil => simp [sepL]
    | cons x a ih =>
      cases a with
      | nil =>
        cases b with
        | nil => simp
        | cons y b => simp [sepL]
      | cons y a =>
        rw [List.cons_append, List.cons_append, sep_cons, sep_cons]
        rw [List.cons_append] at ih
        simp only [List.length_append, List.length_cons] at ih ⊢
        omega
  · rw [List.take_of_length_le (by omega)]
    exact Nat.le_refl _
/-- The texts of a value's items. -/
def partsL (v : Js) : List (List UInt8) := if v.kind = 5 then pairL v.keys (v.l.map jtext) else v.l.map jtext
theorem text_form (v : Js) : jtext v = if v.kind = 1 then (if v.yes then [116, 114, 117, 101] else [102, 97, 108, 115, 101]) else if v.kind = 2 then Lib.itoa v.n else if v.kind = 3 then quoteL v.s.data.toList else if v.kind = 4 then 91 :: (sepL (partsL v) ++ [93]) else if v.kind = 5 then 123 :: (sepL (partsL v) ++ [125]) else [110, 117, 108, 108] := by
  obtain ⟨k, y, n, s, ks, l⟩ := v
  unfold partsL
  by_cases c1 : k = 1
  · cases y <;> simp [jtext, Js.kind, Js.yes, c1]
  by_cases c2 : k = 2
  · simp [jtext, Js.kind, Js.n, c2]
  by_cases c3 : k = 3
  · simp [jtext, Js.kind, Js.s, c3]
  by_cases c4 : k = 4
  · simp [jtext, Js.kind, Js.l, c4, jtexts_map]
  by_cases c5 : k = 5
  · simp [jtext, Js.kind, Js.l, Js.keys, c5, jtexts_map]
  simp [jtext, Js.kind, c1, c2, c3, c4, c5]
end Go.Proofs.YtamclieppbnpiabGreatDoor
/-
  The laws' known object, two cuts of a text: by the program.
-/
namespace Go.Proofs.YtamclieppbnpiabGreatDoor
open Go Go.RowKit Go.Maps
open Fz (HoldsS)

def xA : Js := .mk 4 false 0 ByteArray.empty [] [numJ 1, textJ [195, 169]]
def vA : Js := .mk 5 false 0 ByteArray.empty [bs [97]] [xA]
def sA : List UInt8 := [123, 34, 97, 34, 58, 32, 91, 49, 44, 32, 34, 92, 117, 48, 48, 101, 57, 34, 93, 125]
def tA : List UInt8 := [123, 34, 97, 34, 58, 91, 49, 44, 34, 195, 169, 34, 93, 125]
theorem shown_parse : parseL sA = .ok vA := by kernel_rfl
theorem shown_text : jtext vA = tA := by kernel_rfl
theorem shown_right : rightJ 64 vA = true := by kernel_rfl
theorem shown_get : getJ vA ⟨#[97]⟩ = some xA := by kernel_rfl
theorem shown_bad : parseL [34, 92, 117, 100, 56, 48, 48, 34] = .error 152 := by kernel_rfl
theorem shown_quote : quoteL [97, 34, 10] = [34, 97, 92, 34, 92, 117, 48, 48, 48, 97, 34] := by kernel_rfl
theorem shown_valid : Lib.validD [97, 34, 10] = true := by kernel_rfl
theorem shown_ok : okJ 100 vA := by
  unfold vA xA numJ textJ
  simp only [okJ, okJs, InI]
  refine ⟨by omega, by decide, by decide, by decide, by decide, ⟨by omega, by decide, by decide, by decide, by decide, ⟨by omega, by decide, by decide, by decide, by decide, trivial⟩, ⟨by omega, by decide, by decide, by decide, by decide, trivial⟩, trivial⟩, trivial⟩
/-- A value read off the memory: its six parts. -/
theorem JC.six {w : World} {x : Js} {cs : Array Value} (h : JC w x cs.toList) : ∃ A c B d, cs = #[.int .i64 x.kind, .bool x.yes, .int .i64 x.n, .string x.s, .slice A x.keys.length c, .slice B x.l.length d] := by
  obtain ⟨A, c, B, d, hcs, -⟩ := JC_iff.1 h
  exact ⟨A, c, B, d, by rw [← hcs]⟩
set_option maxRecDepth 100000 in
set_option maxHeartbeats 8000000 in
theorem shown_any (a : Addr) (w : World) (hW : WJ a w) : Calls Tryz.prog 5 #[] w fun e w' => e = .returned (.bool true) ∧ Below w.heap.size w w' := by
  have HW := Lib.hid hW
  have H1 := Lib.hid (parse_any a sA w _ shown_parse (by decide) hW)
  clear hW
  go_enter Tryz.func5, Tryz.ntmps5
  go_wp2_with fail
  refine H1.out.mono ?_
  rintro e w1 ⟨hb, cs, rfl, hJ⟩
  obtain ⟨A1, c1, B1, d1, rfl⟩ := hJ.six
  have hbV := below_new w1 (.cells #[.int .i64 vA.kind, .bool vA.yes, .int .i64 vA.n, .string vA.s, .slice A1 vA.keys.length c1, .slice B1 vA.l.length d1] tJ)
  have hV := heap_alloc_new w1 (.cells #[.int .i64 vA.kind, .bool vA.yes, .int .i64 vA.n, .string vA.s, .slice A1 vA.keys.length c1, .slice B1 vA.l.length d1] tJ)
  have HJ1 := Lib.hid (hJ.keep hbV)
  have HB1 := Lib.hid (hb.trans (hbV.mono hb.size))
  have HV1 := Lib.hid hV
  have HP := Lib.hid (Print_any a 100 (by omega) vA shown_ok (fun _ => by rw [shown_text]; decide) _ _ HJ1.out (HW.out.keep HB1.out))
  rw [shown_right, shown_text] at HP
  simp only [if_true] at HP
  rw [show bs tA = (⟨#[123, 34, 97, 34, 58, 91, 49, 44, 34, 195, 169, 34, 93, 125]⟩ : ByteArray) from rfl] at HP
  obtain ⟨y0, y1, y2, y3, y4, y5⟩ := six_at hV
  clear hb hJ hbV hV
  go_wp2_with fail
  refine HP.out.mono ?_
  rintro e w2 ⟨rfl, hb⟩
  have HJ2 := Lib.hid (HJ1.out.keep hb)
  have HB2 := Lib.hid (HB1.out.trans (hb.mono HB1.out.size))
  have HV2 := Lib.hid ((hb.block _ (by simp)).trans HV1.out)
  have HG := Lib.hid (Get_any 100 (by omega) vA shown_ok ⟨#[97]⟩ _ _ HJ2.out)
  rw [shown_get] at HG
  obtain ⟨y0, y1, y2, y3, y4, y5⟩ := six_at HV2.out
  clear hb
  go_wp2_with fail
  refine HG.out.mono ?_
  rintro e w3 ⟨⟨cs, rfl, hJ⟩, hb⟩
  simp only [Option.getD_some, Option.isSome_some] at hJ ⊢
  obtain ⟨A3, c3, B3, d3, rfl⟩ := hJ.six
  have HX3 : ∃ b off, B3 = some ⟨b, off, none⟩ ∧ w3.cell? ⟨b, off + 0 * 6 + 2, none⟩ = some (.int .i64 1) := by
    obtain ⟨A', c', B', d', e1, -, -, -, hL⟩ := JC_iff.1 hJ
    simp only [List.cons.injEq, Value.slice.injEq] at e1
    obtain ⟨b, off, cs0, rfl, hc, h0⟩ := hL 0 (numJ 1) rfl
    obtain ⟨A0, c0, B0, d0, e0, -⟩ := JC_iff.1 h0
    exact ⟨b, off, by simp [e1], hc 2 _ (by rw [e0]; rfl)⟩
  obtain ⟨b3, o3, rfl, hN⟩ := HX3
  have HV3 := Lib.hid ((hb.block _ (Array.getElem?_eq_some_iff.1 HV2.out).1).trans HV2.out)
  have HJ3 := Lib.hid (HJ2.out.keep hb)
  have HB3 := Lib.hid (HB2.out.trans (hb.mono HB2.out.size))
  have hbX := below_new w3 (.cells #[.int .i64 xA.kind, .bool xA.yes, .int .i64 xA.n, .string xA.s, .slice A3 xA.keys.length c3, .slice (some ⟨b3, o3, none⟩) xA.l.length d3] tJ)
  have hX := heap_alloc_new w3 (.cells #[.int .i64 xA.kind, .bool xA.yes, .int .i64 xA.n, .string xA.s, .slice A3 xA.keys.length c3, .slice (some ⟨b3, o3, none⟩) xA.l.length d3] tJ)
  have HX4 := Lib.hid hX
  have HN4 := Lib.hid ((hbX.cell (p := ⟨b3, o3 + 0 * 6 + 2, none⟩) (cell_lt hN)).trans hN)
  have HV4 := Lib.hid ((hbX.block _ (Array.getElem?_eq_some_iff.1 HV3.out).1).trans HV3.out)
  have HJ4 := Lib.hid (HJ3.out.keep hbX)
  have HB4 := Lib.hid (HB3.out.trans (hbX.mono HB3.out.size))
  have H5 := Lib.hid (parse_any a [34, 92, 117, 100, 56, 48, 48, 34] _ _ shown_bad (by decide) (HW.out.keep HB4.out))
  clear hb hJ hN hbX hX y0 y1 y2 y3 y4 y5
  go_wp2_with fail
  refine H5.out.mono ?_
  rintro e w5 ⟨hb, rfl⟩
  unfold zeroJ
  have hbZ := below_new w5 (.cells #[.int .i64 0, .bool false, .int .i64 0, .string ⟨#[]⟩, .slice none 0 0, .slice none 0 0] tJ)
  have hb5 := hb.trans (hbZ.mono hb.size)
  have HX5 := Lib.hid ((hb5.block _ (Array.getElem?_eq_some_iff.1 HX4.out).1).trans HX4.out)
  have HN5 := Lib.hid ((hb5.cell (p := ⟨b3, o3 + 0 * 6 + 2, none⟩) (cell_lt HN4.out)).trans HN4.out)
  have HV5 := Lib.hid ((hb5.block _ (Array.getElem?_eq_some_iff.1 HV4.out).1).trans HV4.out)
  have HJ5 := Lib.hid (HJ4.out.keep hb5)
  have HB5 := Lib.hid (HB4.out.trans (hb5.mono HB4.out.size))
  have H6 := Lib.hid (Quote_any a [97, 34, 10] _ (by decide) (HW.out.keep HB5.out))
  rw [shown_valid] at H6
  simp only [if_true, shown_quote] at H6
  rw [show bs [34, 97, 92, 34, 92, 117, 48, 48, 48, 97, 34] = (⟨#[34, 97, 92, 34, 92, 117, 48, 48, 48, 97, 34]⟩ : ByteArray) from rfl] at H6
  clear hb hbZ hb5
  go_wp2_with fail
  generalize w5.alloc (.cells #[.int .i64 0, .bool false, .int .i64 0, .string ⟨#[]⟩, .slice none 0 0, .slice none 0 0] tJ) = W5 at *
  refine H6.out.mono ?_
  rintro e w6 ⟨rfl, hb⟩
  have hX6 := (hb.block _ (Array.getElem?_eq_some_iff.1 HX5.out).1).trans HX5.out
  have hN6 := (hb.cell (p := ⟨b3, o3 + 0 * 6 + 2, none⟩) (cell_lt HN5.out)).trans HN5.out
  have hV6 := (hb.block _ (Array.getElem?_eq_some_iff.1 HV5.out).1).trans HV5.out
  have HJ6 := Lib.hid (HJ5.out.keep hb)
  have HB6 := Lib.hid (HB5.out.trans (hb.mono HB5.out.size))
  have H7 := Lib.hid (Right_any a 100 (by omega) vA shown_ok _ _ HJ6.out (HW.out.keep HB6.out))
  rw [shown_right] at H7
  obtain ⟨y0, y1, y2, y3, y4, y5⟩ := six_at hV6
  obtain ⟨x0, x1, x2, x3, x4, x5⟩ := six_at hX6
  have hN7 : w6.cell? ⟨b3, o3 + 2, none⟩ = some (.int .i64 1) := hN6
  have e2 : xA.l.length = 2 := rfl
  rw [e2] at x5
  clear hb hX6 hV6 e2
  go_wp2_with fail
  refine H7.out.mono ?_
  rintro e w7 ⟨rfl, hb⟩
  have HB7 := Lib.hid (HB6.out.trans (hb.mono HB6.out.size))
  clear hb
  go_wp2_with fail
  go_ret
  exact ⟨rfl, HB7.out⟩
/-- A text's first bytes. -/
def headS (m : Nat) (s : ByteArray) : ByteArray := s.extract 0 (min s.size m)
theorem headS_size (m : Nat) (s : ByteArray) : (headS m s).size ≤ m := by
  unfold headS
  rw [ByteArray.size_extract]
  omega
set_option maxHeartbeats 1000000 in
theorem short_any (s : ByteArray) (w : World) (hs : s.size ≤ maxLen) : Calls Tryz.prog 9 #[.string s] w fun e w' => e = .returned (.string (headS 50 s)) ∧ w' = w := by
  unfold maxLen at hs
  have m0 : (0 : Int) ≤ min (s.size : Int) 50 := by omega
  have m1 : min (s.size : Int) 50 ≤ (s.size : Int) := by omega
  have m2 : (min (s.size : Int) 50).toNat = min s.size 50 := by omega
  unfold headS
  go_enter Tryz.func9, Tryz.ntmps9
  go_wp2_with fail
  go_ret
  exact ⟨rfl, rfl⟩
end Go.Proofs.YtamclieppbnpiabGreatDoor
/-
  A value's first levels: plainly, and what the memory holds while they are made. No program here.
-/
namespace Go.Proofs.YtamclieppbnpiabGreatDoor
open Go Go.RowKit Go.Maps
open Fz (HoldsS)

/-- So many levels, of each the first six items and keys, texts of at most fifty bytes. -/
def fewJ : Nat → Js → Js
  | 0, v => .mk v.kind v.yes v.n (headS 50 v.s) ((v.keys.take 6).map (headS 50)) []
  | d + 1, v => .mk v.kind v.yes v.n (headS 50 v.s) ((v.keys.take 6).map (headS 50)) ((v.l.take 6).map (fewJ d))
def fewL : Nat → Js → List Js
  | 0, _ => []
  | d + 1, v => (v.l.take 6).map (fewJ d)
theorem few_mk (d : Nat) (v : Js) : fewJ d v = .mk v.kind v.yes v.n (headS 50 v.s) ((v.keys.take 6).map (headS 50)) (fewL d v) := by cases d <;> rfl
/-- What the two loops hold. -/
structure FewAt (w wr : World) (P : Array Value) (k n : Int) (y : Bool) (s : ByteArray) (ks ls : Value) (keys : List ByteArray) (acc : List Js) : Prop where
  low : Below w.heap.size w wr
  par : wr.heap[w.heap.size]? = some (.cells P tJ (0, 0))
  res : wr.heap[w.heap.size + 1]? = some (.cells #[.int .i64 0, .bool false, .int .i64 0, .string ⟨#[]⟩, .slice none 0 0, .slice none 0 0] tJ (0, 0))
  out : wr.heap[w.heap.size + 2]? = some (.cells #[.int .i64 k, .bool y, .int .i64 n, .string s, ks, ls] tJ (0, 0))
  kown : wr.ownsRow (w.heap.size + 3) sK 1 ks keys.length (strCells keys)
  lown : ∃ D, OwnsJ wr (w.heap.size + 3) D ls acc ∧ ∀ g, ks.ownBlock = some g → ¬ D g
section
variable {w wr w' : World} {P : Array Value} {k n : Int} {y : Bool} {s : ByteArray} {ks ls : Value} {keys : List ByteArray} {acc : List Js}
theorem FewAt.lt (h : FewAt w wr P k n y s ks ls keys acc) : w.heap.size + 3 ≤ wr.heap.size := by
  have := (Array.getElem?_eq_some_iff.1 h.out).1
  omega
theorem FewAt.below (h : FewAt w wr P k n y s ks ls keys acc) (hb : Below wr.heap.size wr w') : FewAt w w' P k n y s ks ls keys acc := by
  have hl := h.lt
  obtain ⟨D, h1, h2⟩ := h.lown
  exact ⟨h.low.trans (hb.mono h.low.size), (hb.block _ (by omega)).trans h.par, (hb.block _ (by omega)).trans h.res, (hb.block _ (by omega)).trans h.out, own_same h.kown (fun g hg => hb.block g (h.kown.lt g hg).2), D, h1.below hb, h2⟩
/-- A key is appended. -/
theorem FewAt.keyed {x : ByteArray} {g0 : Nat} (h : FewAt w wr P k n y s ks (.slice none 0 0) keys []) (hg0 : wr.heap[g0]? = some (.cells #[.string x] sK (0, 0))) (hl : keys.length ≤ 1000) :
    ∃ ks' w9, (Builtin.append_ #[22, 22] 22 #[ks, .slice (some ⟨g0, 0, none⟩) 1 1]).run Tryz.prog wr = .ok ks' w9 ∧ (∀ b, b < w.heap.size + 3 → w9.heap[b]? = wr.heap[b]?) ∧ wr.heap.size ≤ w9.heap.size ∧
      FewAt w (w9.setCell ⟨w.heap.size + 2, 4, none⟩ ks') P k n y s ks' (.slice none 0 0) (keys ++ [x]) [] := by
  have hlt := h.lt
  obtain ⟨A, c, w9, hrun, hown, hgr, hat⟩ := push_str hg0 h.kown (by omega) hlt
  have hb : ∀ b, b < w.heap.size + 3 → w9.heap[b]? = wr.heap[b]? := fun b hb => hgr.block b (by omega) (fun e => by have := (h.kown.lt b e.symm).1; omega)
  refine ⟨_, w9, hrun, hb, hgr.size, ?_⟩
  have ho := (hb _ (by omega)).trans h.out
  have hne : ∀ b, b ≠ w.heap.size + 2 → (w9.setCell ⟨w.heap.size + 2, 4, none⟩ (.slice A (keys.length + 1) c)).heap[b]? = w9.heap[b]? := fun b hb => heap_setCell_other _ _ _ _ hb
  refine ⟨?_, (hne _ (by omega)).trans ((hb _ (by omega)).trans h.par), (hne _ (by omega)).trans ((hb _ (by omega)).trans h.res), ?_, own_same hown (fun g hg => hne g (fun e => by have := (hown.lt g hg).1; omega)), fun _ => False, OwnsJ.nil _ _, fun _ _ h => h⟩
  · exact (h.low.grown hgr h.low.size (fun b hb => (by have := (h.kown.lt b hb).1; omega))).setCell (p := ⟨w.heap.size + 2, 4, none⟩) (by show w.heap.size ≤ w.heap.size + 2; omega) _
  · rw [heap_setCell_same w9 _ 4 _ _ _ ho]
    simp
/-- An item is appended. -/
theorem FewAt.pushed {x : Js} {cs : List Value} {E : Nat → Prop} {g0 : Nat} (h : FewAt w wr P k n y s ks ls keys acc) (hg0 : wr.heap[g0]? = some (.cells cs.toArray tJ (0, 0))) (hJ : JD E wr x cs) (hE : ∀ b, E b → w.heap.size + 3 ≤ b ∧ b < wr.heap.size)
    (hEl : ∀ k, ls.ownBlock = some k → ¬ E k) (hEk : ∀ k, ks.ownBlock = some k → ¬ E k) (hl : acc.length ≤ 1000) :
    ∃ ls' w9, (Builtin.append_ #[23, 23] 23 #[ls, .slice (some ⟨g0, 0, none⟩) 1 1]).run Tryz.prog wr = .ok ls' w9 ∧ (∀ b, b < w.heap.size + 3 → w9.heap[b]? = wr.heap[b]?) ∧ wr.heap.size ≤ w9.heap.size ∧
      FewAt w (w9.setCell ⟨w.heap.size + 2, 5, none⟩ ls') P k n y s ks ls' keys (acc ++ [x]) := by
  have hlt := h.lt
  obtain ⟨D, h1, h2⟩ := h.lown
  obtain ⟨A, c, w9, hrun, hO9, hgr, hat⟩ := push_js hg0 hJ hE hEl h1 (by omega) hlt
  have hb : ∀ b, b < w.heap.size + 3 → w9.heap[b]? = wr.heap[b]? := fun b hb => hgr.block b (by omega) (fun e => by have := (h1.block b e.symm).1; omega)
  refine ⟨_, w9, hrun, hb, hgr.size, ?_⟩
  have ho := (hb _ (by omega)).trans h.out
  have hne : ∀ b, b ≠ w.heap.size + 2 → (w9.setCell ⟨w.heap.size + 2, 5, none⟩ (.slice A (acc.length + 1) c)).heap[b]? = w9.heap[b]? := fun b hb => heap_setCell_other _ _ _ _ hb
  refine ⟨?_, (hne _ (by omega)).trans ((hb _ (by omega)).trans h.par), (hne _ (by omega)).trans ((hb _ (by omega)).trans h.res), ?_, ?_, _, hO9.stay (by simp [World.setCell]) (fun b hb => hne b (fun e => by have := (hO9.low b hb).1; omega)) (fun g hg => hne g (fun e => by have := (hO9.block g hg).1; omega)), fun g hg hD => hD.elim (h2 g hg) (hEk g hg)⟩
  · exact (h.low.grown hgr h.low.size (fun b hb => (by have := (h1.block b hb).1; omega))).setCell (p := ⟨w.heap.size + 2, 5, none⟩) (by show w.heap.size ≤ w.heap.size + 2; omega) _
  · rw [heap_setCell_same w9 _ 5 _ _ _ ho]
    simp
  · exact own_same h.kown (fun g hg => (hne g (fun e => by have := (h.kown.lt g hg).1; omega)).trans (hgr.block g (h.kown.lt g hg).2 (fun e => h1.apart_row h.kown (by decide) g e.symm hg)))
end
end Go.Proofs.YtamclieppbnpiabGreatDoor
