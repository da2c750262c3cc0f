/-
  What the statements of layer 6 show of one text.
-/
import Derived.Test.YtlokkdbgihbnhabDoorProg
import Derived.Test.YtlokkdbgihbnhabDoorReg
import Derived.WalkKit
import Derived.WalkSpells
import Derived.WalkLawsBesides
import Derived.Lib.Hide
import Derived.Lib.MinMax
import Derived.Deep.QuietTactic
import Derived.BigQuiet
import Derived.OwnWalk
import Derived.Deep.AppendLies
import Derived.KernelRfl
import Derived.Laws.Rows
import Derived.Test.YtlokkdbgihbnhabDoorGrpKc
import Derived.Test.YtlokkdbgihbnhabDoorGrpY
set_option linter.unusedSimpArgs false
set_option linter.unusedVariables false
namespace Go.Proofs.YtlokkdbgihbnhabDoor
open Go Go.RowKit

def shownL : List Tok := [⟨8, ⟨#[123]⟩, ⟨#[123]⟩⟩, ⟨8, ⟨#[40]⟩, ⟨#[40]⟩⟩, ⟨5, ⟨#[97]⟩, noText⟩, ⟨8, ⟨#[41]⟩, ⟨#[41]⟩⟩, ⟨8, ⟨#[125]⟩, ⟨#[125]⟩⟩, ⟨8, ⟨#[226, 139, 132]⟩, ⟨#[226, 139, 132]⟩⟩, ⟨5, ⟨#[98]⟩, noText⟩]
theorem shown_is : dLineGo 9 shownText = shownL := shown_line
theorem shown_code : codeOf shownL = 0 := by decide +kernel
theorem shown_match : matchOf shownL = [4, 3, -1, 1, 0, -1, -1] := by decide +kernel
theorem shown_deep : deepOf shownL = [0, 1, 2, 1, 0, 0, 0] := by decide +kernel
theorem shown_four : codeOf (shownL.take 4) = 60 := by decide +kernel
theorem shown_split : splitRes shownL ⟨#[226, 139, 132]⟩ = ([shownL.take 5, [⟨5, ⟨#[98]⟩, noText⟩]], 0) := by decide +kernel
theorem shown_mild : mildT shownL := by
  refine ⟨by decide, fun k x h => ?_⟩
  have h1 : ∀ y ∈ shownL, y.text.size ≤ 1000000 ∧ y.glyph.size ≤ 1000000 := by decide +kernel
  exact h1 x (List.mem_of_getElem? h)
theorem mild_take {l : List Tok} (h : mildT l) (n : Nat) : mildT (l.take n) := by
  refine ⟨by have := h.1; simp; omega, fun k x hx => ?_⟩
  rw [List.getElem?_take] at hx
  split at hx
  · exact h.2 k x hx
  · cases hx
theorem HoldsT.take {w : World} {A : Option Addr} {l : List Tok} (h : HoldsT w A l) (n : Nat) : HoldsT w A (l.take n) := fun k x hx => by
  rw [List.getElem?_take] at hx
  split at hx
  · exact h k x hx
  · cases hx
theorem holdsI_lit {w : World} {b : Nat} {l : List Int} {T : TypeId} {fr : Nat × Nat} (h : w.heap[b]? = some (.cells (intCells l).toArray T fr)) : HoldsI w (some ⟨b, 0, none⟩) l := fun k x hx => by
  refine ⟨b, 0, rfl, ?_⟩
  rw [Nat.zero_add]
  simp [World.cell?, h, intCells, hx]

set_option maxRecDepth 100000 in
set_option maxHeartbeats 8000000 in
theorem shown_any (w : World) (hg : Listed w) : Calls Tryd.prog 4 #[] w fun e w' => e = .returned (.bool true) ∧ Below w.heap.size w w' := by
  have HL := Lib.hid (line_any shownText 9 w (by omega) (by decide) shown_simple)
  rw [shown_is] at HL
  unfold shownText at HL
  have hlen : shownL.length = 7 := rfl
  rw [hlen] at HL
  go_enter Tryd.func4, Tryd.ntmps4
  go_wp2_with fail
  refine HL.out.mono ?_
  rintro r w1 ⟨B, d, rfl, hT, hd, hb1⟩
  obtain ⟨b, off, rfl, -⟩ := hT 0 _ (List.getElem?_eq_getElem (show 0 < shownL.length by rw [hlen]; omega))
  have hg1 := hg.below hb1
  have H1 := Lib.hid (gmatch_any _ d shownL w1 shown_mild hT hg1)
  rw [hlen, shown_match, shown_code] at H1
  clear HL
  go_wp2_with fail
  refine H1.out.mono ?_
  rintro r w2 ⟨B2, d2, rfl, hm2, hb2⟩
  have hT2 := hT.below hb2
  have hg2 := hg1.below hb2
  have H2 := Lib.hid (gdeep_any _ d shownL w2 shown_mild hT2 hg2)
  rw [hlen, shown_deep, shown_code] at H2
  have B2' := Lib.hid (hb1.trans (hb2.mono hb1.size))
  clear H1 hb1 hb2 hg1 hT
  go_wp2_with fail
  refine H2.out.mono ?_
  rintro r w3 ⟨B3, d3, rfl, hm3, hb3⟩
  have hT3 := hT2.below hb3
  have hg3 := hg2.below hb3
  have hm23 := hm2.below hb3
  have H3 := Lib.hid (gsplit_any _ d shownL ⟨#[226, 139, 132]⟩ w3 shown_mild (by rw [hlen]; omega) hT3 hg3)
  rw [hlen, shown_split] at H3
  have B3' := Lib.hid (B2'.out.trans (hb3.mono B2'.out.size))
  clear H2 hb3 hg2 hT2 hm2
  go_wp2_with fail
  refine H3.out.mono ?_
  rintro r w4 ⟨B4, d4, rfl, hm4, hb4⟩
  have hT4 := hT3.below hb4
  have hg4 := hg3.below hb4
  have hm24 := hm23.below hb4
  have hm34 := hm3.below hb4
  have H4 := Lib.hid (gmatch_any (some ⟨b, off, none⟩) d (shownL.take 4) w4 (mild_take shown_mild 4) (hT4.take 4) hg4)
  rw [shown_four] at H4
  have hlen4 : (shownL.take 4).length = 4 := rfl
  rw [hlen4] at H4
  have B4' := Lib.hid (B3'.out.trans (hb4.mono B3'.out.size))
  have dd : (4 : Int) ≤ (d : Int) := by omega
  clear H3 hb4 hg3 hT3 hm23 hm3
  go_wp2_with fail
  refine H4.out.mono ?_
  rintro r w5 ⟨B5, d5, rfl, -, hb5⟩
  have hm25 := Lib.hid (hm24.below hb5)
  have hm35 := Lib.hid (hm34.below hb5)
  have hm45 := hm4.below hb5
  have B5' := Lib.hid (B4'.out.trans (hb5.mono B4'.out.size))
  obtain ⟨b6, o6, B6, c6, rfl, s1, s2, -⟩ := hm45 0 _ rfl
  have s1' := s1
  clear H4 hb5 hg4 hT4 hm24 hm34 hm4 hm45
  have HI1 : Hid (∀ u : World, HoldsI u B2 [4, 3, -1, 1, 0, -1, -1] → HoldsI u (some ⟨w5.heap.size, 0, none⟩) [4, 3, -1, 1, 0, -1, -1] → Calls Tryd.prog 12 #[.slice B2 7 d2, .slice (some ⟨w5.heap.size, 0, none⟩) 7 7] u fun r w' => r = .returned (.bool true) ∧ ∃ n, w' = u.drewN n) :=
    Lib.hid (fun u h1 h2 => ints_any B2 _ d2 7 [4, 3, -1, 1, 0, -1, -1] [4, 3, -1, 1, 0, -1, -1] u (by simp) (by simp) h1 h2)
  go_wp2_with fail
  refine (HI1.out _ (hm25.out.below ((Below.refl _ _).alloc (Nat.le_refl _) _)) (holdsI_lit (heap_alloc_new w5 _))).mono ?_
  rintro r w6 ⟨rfl, n6, hw6⟩
  have lb6 := cell_lt s1
  simp only at lb6
  have hb6 : Below w5.heap.size w5 w6 := by rw [hw6]; exact below_drewN ((Below.refl _ _).alloc (Nat.le_refl _) _) _
  have hsz6 : w6.heap.size = w5.heap.size + 1 := by rw [hw6]; simp [World.drewN]
  have s6 := (hb6.cell (p := ⟨b6, o6 + 0, none⟩) lb6).trans s1
  have hm36 := Lib.hid (hm35.out.below hb6)
  have B6' := Lib.hid (B5'.out.trans (hb6.mono B5'.out.size))
  clear HI1 hw6 s1 s1' hb6 hm25 hm35
  have HI2 : Hid (∀ u : World, HoldsI u B3 [0, 1, 2, 1, 0, 0, 0] → HoldsI u (some ⟨w6.heap.size, 0, none⟩) [0, 1, 2, 1, 0, 0, 0] → Calls Tryd.prog 12 #[.slice B3 7 d3, .slice (some ⟨w6.heap.size, 0, none⟩) 7 7] u fun r w' => r = .returned (.bool true) ∧ ∃ n, w' = u.drewN n) :=
    Lib.hid (fun u h1 h2 => ints_any B3 _ d3 7 [0, 1, 2, 1, 0, 0, 0] [0, 1, 2, 1, 0, 0, 0] u (by simp) (by simp) h1 h2)
  clear hsz6
  go_wp2_with fail
  refine (HI2.out _ (hm36.out.below ((Below.refl _ _).alloc (Nat.le_refl _) _)) (holdsI_lit (heap_alloc_new w6 _))).mono ?_
  rintro r w7 ⟨rfl, n7, hw7⟩
  have lb7 := cell_lt s6
  simp only at lb7
  have hb7 : Below w6.heap.size w6 w7 := by rw [hw7]; exact below_drewN ((Below.refl _ _).alloc (Nat.le_refl _) _) _
  have s7 := (hb7.cell (p := ⟨b6, o6 + 0, none⟩) lb7).trans s6
  have B7' := Lib.hid (B6'.out.trans (hb7.mono B6'.out.size))
  clear HI2 hw7 s6 hb7 hm36
  rw [Nat.add_zero] at s7
  have q5 : (List.take 5 shownL).length = 5 := rfl
  rw [q5] at s7
  go_wp2_with fail
  go_ret
  exact ⟨rfl, B7'.out⟩
end Go.Proofs.YtlokkdbgihbnhabDoor
