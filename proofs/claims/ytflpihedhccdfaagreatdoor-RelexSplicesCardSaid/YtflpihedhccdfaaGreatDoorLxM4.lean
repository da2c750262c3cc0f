/-
  The table of glyphs is filled: the closure that does so. Printed by lx_fill.py.
-/
import Derived.Test.YtflpihedhccdfaaGreatDoorProg
import Derived.Test.YtflpihedhccdfaaGreatDoorReg
import Derived.WalkKit
import Derived.WalkSpells
import Derived.WalkLawsBesides
import Derived.Lib.Hide
import Derived.Lib.MinMax
import Derived.Deep.QuietTactic
import Derived.BigQuiet
import Derived.OwnWalk
import Derived.Deep.AppendLies
import Derived.KernelRfl
import Derived.Test.YtflpihedhccdfaaGreatDoorLxM3
set_option linter.unusedSimpArgs false
set_option linter.unusedVariables false
namespace Go.Proofs.YtflpihedhccdfaaGreatDoor
open Go.RowKit Go.Maps

/-- The table at T holds L, in w0's terms. -/
def Tab (w0 : World) (base T : Nat) (h : List Value) (M : Nat) (L : List Gly) (W : World) : Prop := ∃ lv, TabAt W base T h L (addLook (fun _ => none) L) L.length lv M ∧ KeptBut base T w0 W ∧ base ≤ W.heap.size
theorem addLook_app (look : ByteArray → Option Value) (a b : List Gly) : addLook (addLook look a) b = addLook look (a ++ b) := by unfold addLook; rw [List.foldl_append]
theorem TabAt.below {w w' : World} {base T : Nat} {h : List Value} {L : List Gly} {look : ByteArray → Option Value} {n : Nat} {lv : Value} {M : Nat} (t : TabAt w base T h L look n lv M) (hb : Below w.heap.size w w') : TabAt w' base T h L look n lv M :=
  ⟨(hb.block _ (Array.getElem?_eq_some_iff.1 t.row).1).trans t.row, own_below t.l hb, t.by_.below hb, t.low⟩
theorem Tab.below {w0 W W' : World} {base T : Nat} {h : List Value} {M : Nat} {L : List Gly} (t : Tab w0 base T h M L W) (hb : Below W.heap.size W W') : Tab w0 base T h M L W' := by
  obtain ⟨lv, h1, h2, h3⟩ := t
  exact ⟨lv, h1.below hb, h2.trans (.of_below hb h3), Nat.le_trans h3 hb.size⟩
theorem Tab.cell {w0 W : World} {base T : Nat} {h : List Value} {M : Nat} {L : List Gly} (t : Tab w0 base T h M L W) {b o : Nat} {v : Value} (hb : b < base) (hne : b ≠ T) (hc : w0.cell? ⟨b, o, none⟩ = some v) : W.cell? ⟨b, o, none⟩ = some v := by
  obtain ⟨lv, h1, h2, h3⟩ := t
  have := h2.block b hb hne
  rw [← hc]
  simp only [World.cell?, this]
theorem map_lt {w : World} {P : Program} {k : TypeId} {b n : Nat} {look : ByteArray → Option Value} (h : MapIs w P k b n look) : b < w.heap.size := by
  obtain ⟨_, ⟨es, c, h1, _⟩, _⟩ := h
  exact (Array.getElem?_eq_some_iff.1 h1).1
theorem tab_add {w0 W W1 : World} {base T : Nat} {h : List Value} {M : Nat} {L G : List Gly} {v : Value} (h3 : h.length = 3) (hT : T < base) (ht : Tab w0 base T h M L W) (hf : W1.ownsRow W.heap.size tG 3 v G.length (glyCells G)) (hb : Below W.heap.size W W1) (hl : L.length + G.length ≤ 1000) (hsz : ∀ g ∈ G, g.glyph.size ≤ 100) :
    Calls Tryz.prog 119 #[.pointer (some ⟨T, 0, none⟩), v] W1 fun e w' => e = .returned (.tuple #[]) ∧ Tab w0 base T h M (L ++ G) w' := by
  obtain ⟨lv, h1, h2, h3'⟩ := ht
  obtain ⟨A, c, rfl, _, hH, _⟩ := holdsG_of_own hf
  have hlT : T < W.heap.size := by omega
  have hlM := map_lt h1.by_
  refine (add_any G A c base T h h3 L (addLook (fun _ => none) L) L.length lv M W1 hT (Nat.le_trans h3' hb.size) hl hl hsz (h1.below hb) hH (fun b off e => ?_)).mono ?_
  · have hbb : W.heap.size ≤ b := ownBlock_ge hf b (by rw [e]; rfl)
    refine ⟨by omega, by omega, fun e2 => ?_⟩
    have := (h1.l.lt b e2).2
    omega
  · rintro e w' ⟨rfl, ⟨lv', ht'⟩, hk⟩
    rw [addLook_app, ← List.length_append] at ht'
    exact ⟨rfl, lv', ht', (h2.trans (.of_below hb h3')).trans hk, Nat.le_trans (Nat.le_trans h3' hb.size) hk.size⟩

def gl1 : List Gly := plainG 1 [⟨#[43]⟩, ⟨#[45]⟩]

def gl2 : List Gly := typedG 1 [⟨#[195, 151]⟩, ⟨#[120]⟩, ⟨#[195, 183]⟩, ⟨#[100]⟩, ⟨#[226, 140, 136]⟩, ⟨#[117]⟩, ⟨#[226, 140, 138]⟩, ⟨#[110]⟩]

def gl3 : List Gly := plainG 1 [⟨#[124]⟩, ⟨#[61]⟩]

def gl4 : List Gly := typedG 1 [⟨#[226, 137, 160]⟩, ⟨#[113]⟩]

def gl5 : List Gly := plainG 1 [⟨#[60]⟩, ⟨#[62]⟩]

def gl6 : List Gly := typedG 1 [⟨#[226, 137, 164]⟩, ⟨#[108]⟩, ⟨#[226, 137, 165]⟩, ⟨#[103]⟩, ⟨#[226, 136, 167]⟩, ⟨#[97]⟩, ⟨#[226, 136, 168]⟩, ⟨#[111]⟩]

def gl7 : List Gly := plainG 1 [⟨#[126]⟩]

def gl8 : List Gly := typedG 1 [⟨#[226, 141, 180]⟩, ⟨#[114]⟩, ⟨#[226, 141, 179]⟩, ⟨#[105]⟩]

def gl9 : List Gly := plainG 1 [⟨#[44]⟩]

def gl10 : List Gly := typedG 1 [⟨#[226, 140, 189]⟩, ⟨#[116]⟩, ⟨#[226, 134, 145]⟩, ⟨#[107]⟩, ⟨#[226, 134, 147]⟩, ⟨#[106]⟩, ⟨#[226, 137, 162]⟩, ⟨#[109]⟩]

def gl11 : List Gly := plainG 2 [⟨#[47]⟩, ⟨#[92]⟩]

def gl12 : List Gly := typedG 2 [⟨#[194, 168]⟩, ⟨#[101]⟩, ⟨#[226, 141, 168]⟩, ⟨#[99]⟩]

def gl13 : List Gly := typedG 3 [⟨#[226, 134, 144]⟩, ⟨#[115]⟩, ⟨#[226, 139, 132]⟩, ⟨#[122]⟩]

def gl14 : List Gly := plainG 3 [⟨#[58]⟩, ⟨#[123]⟩, ⟨#[125]⟩, ⟨#[40]⟩, ⟨#[41]⟩]

def gl15 : List Gly := typedG 4 [⟨#[226, 141, 186]⟩, ⟨#[112]⟩, ⟨#[226, 141, 181]⟩, ⟨#[119]⟩]

def gl16 : List Gly := typedG 5 [⟨#[194, 175]⟩, ⟨#[104]⟩]

def gl17 : List Gly := typedG 6 [⟨#[226, 141, 157]⟩, ⟨#[98]⟩]

def glTo0 : List Gly := []
def glTo1 : List Gly := glTo0 ++ gl1
def glTo2 : List Gly := glTo1 ++ gl2
def glTo3 : List Gly := glTo2 ++ gl3
def glTo4 : List Gly := glTo3 ++ gl4
def glTo5 : List Gly := glTo4 ++ gl5
def glTo6 : List Gly := glTo5 ++ gl6
def glTo7 : List Gly := glTo6 ++ gl7
def glTo8 : List Gly := glTo7 ++ gl8
def glTo9 : List Gly := glTo8 ++ gl9
def glTo10 : List Gly := glTo9 ++ gl10
def glTo11 : List Gly := glTo10 ++ gl11
def glTo12 : List Gly := glTo11 ++ gl12
def glTo13 : List Gly := glTo12 ++ gl13
def glTo14 : List Gly := glTo13 ++ gl14
def glTo15 : List Gly := glTo14 ++ gl15
def glTo16 : List Gly := glTo15 ++ gl16
def glTo17 : List Gly := glTo16 ++ gl17

theorem glTo_all : glTo17 = glyphs := by kernel_rfl

theorem gl1_fine : glTo0.length + gl1.length ≤ 1000 ∧ ∀ g ∈ gl1, g.glyph.size ≤ 100 := by decide +kernel

theorem gl2_fine : glTo1.length + gl2.length ≤ 1000 ∧ ∀ g ∈ gl2, g.glyph.size ≤ 100 := by decide +kernel

theorem gl3_fine : glTo2.length + gl3.length ≤ 1000 ∧ ∀ g ∈ gl3, g.glyph.size ≤ 100 := by decide +kernel

theorem gl4_fine : glTo3.length + gl4.length ≤ 1000 ∧ ∀ g ∈ gl4, g.glyph.size ≤ 100 := by decide +kernel

theorem gl5_fine : glTo4.length + gl5.length ≤ 1000 ∧ ∀ g ∈ gl5, g.glyph.size ≤ 100 := by decide +kernel

theorem gl6_fine : glTo5.length + gl6.length ≤ 1000 ∧ ∀ g ∈ gl6, g.glyph.size ≤ 100 := by decide +kernel

theorem gl7_fine : glTo6.length + gl7.length ≤ 1000 ∧ ∀ g ∈ gl7, g.glyph.size ≤ 100 := by decide +kernel

theorem gl8_fine : glTo7.length + gl8.length ≤ 1000 ∧ ∀ g ∈ gl8, g.glyph.size ≤ 100 := by decide +kernel

theorem gl9_fine : glTo8.length + gl9.length ≤ 1000 ∧ ∀ g ∈ gl9, g.glyph.size ≤ 100 := by decide +kernel

theorem gl10_fine : glTo9.length + gl10.length ≤ 1000 ∧ ∀ g ∈ gl10, g.glyph.size ≤ 100 := by decide +kernel

theorem gl11_fine : glTo10.length + gl11.length ≤ 1000 ∧ ∀ g ∈ gl11, g.glyph.size ≤ 100 := by decide +kernel

theorem gl12_fine : glTo11.length + gl12.length ≤ 1000 ∧ ∀ g ∈ gl12, g.glyph.size ≤ 100 := by decide +kernel

theorem gl13_fine : glTo12.length + gl13.length ≤ 1000 ∧ ∀ g ∈ gl13, g.glyph.size ≤ 100 := by decide +kernel

theorem gl14_fine : glTo13.length + gl14.length ≤ 1000 ∧ ∀ g ∈ gl14, g.glyph.size ≤ 100 := by decide +kernel

theorem gl15_fine : glTo14.length + gl15.length ≤ 1000 ∧ ∀ g ∈ gl15, g.glyph.size ≤ 100 := by decide +kernel

theorem gl16_fine : glTo15.length + gl16.length ≤ 1000 ∧ ∀ g ∈ gl16, g.glyph.size ≤ 100 := by decide +kernel

theorem gl17_fine : glTo16.length + gl17.length ≤ 1000 ∧ ∀ g ∈ gl17, g.glyph.size ≤ 100 := by decide +kernel

theorem below_new (w : World) (o : Obj) : Below w.heap.size w (w.alloc o) := (Below.refl _ w).alloc (Nat.le_refl _) _

theorem make1 (b : Nat) (W : World) (hb : W.heap[b]? = some (.cells #[.string ⟨#[43]⟩, .string ⟨#[45]⟩] 9 (0, 0))) :
    Calls Tryz.prog 120 #[.int .i64 1, .slice (some ⟨b, 0, none⟩) 2 2] W fun e w' => ∃ v, e = .returned v ∧ w'.ownsRow W.heap.size tG 3 v gl1.length (glyCells gl1) ∧ Below W.heap.size W w' := by
  have hh : HoldsS W (some ⟨b, 0, none⟩) [⟨#[43]⟩, ⟨#[45]⟩] := holdsS_lit (T := 9) (fr := (0, 0)) hb
  exact plain_any 1 [⟨#[43]⟩, ⟨#[45]⟩] _ 2 W (by decide) hh

theorem make2 (b : Nat) (W : World) (hb : W.heap[b]? = some (.cells #[.string ⟨#[195, 151]⟩, .string ⟨#[120]⟩, .string ⟨#[195, 183]⟩, .string ⟨#[100]⟩, .string ⟨#[226, 140, 136]⟩, .string ⟨#[117]⟩, .string ⟨#[226, 140, 138]⟩, .string ⟨#[110]⟩] 9 (0, 0))) :
    Calls Tryz.prog 121 #[.int .i64 1, .slice (some ⟨b, 0, none⟩) 8 8] W fun e w' => ∃ v, e = .returned v ∧ w'.ownsRow W.heap.size tG 3 v gl2.length (glyCells gl2) ∧ Below W.heap.size W w' := by
  have hh : HoldsS W (some ⟨b, 0, none⟩) [⟨#[195, 151]⟩, ⟨#[120]⟩, ⟨#[195, 183]⟩, ⟨#[100]⟩, ⟨#[226, 140, 136]⟩, ⟨#[117]⟩, ⟨#[226, 140, 138]⟩, ⟨#[110]⟩] := holdsS_lit (T := 9) (fr := (0, 0)) hb
  exact typed_any 1 [⟨#[195, 151]⟩, ⟨#[120]⟩, ⟨#[195, 183]⟩, ⟨#[100]⟩, ⟨#[226, 140, 136]⟩, ⟨#[117]⟩, ⟨#[226, 140, 138]⟩, ⟨#[110]⟩] _ 8 8 4 W rfl rfl (by decide) hh

theorem make3 (b : Nat) (W : World) (hb : W.heap[b]? = some (.cells #[.string ⟨#[124]⟩, .string ⟨#[61]⟩] 9 (0, 0))) :
    Calls Tryz.prog 120 #[.int .i64 1, .slice (some ⟨b, 0, none⟩) 2 2] W fun e w' => ∃ v, e = .returned v ∧ w'.ownsRow W.heap.size tG 3 v gl3.length (glyCells gl3) ∧ Below W.heap.size W w' := by
  have hh : HoldsS W (some ⟨b, 0, none⟩) [⟨#[124]⟩, ⟨#[61]⟩] := holdsS_lit (T := 9) (fr := (0, 0)) hb
  exact plain_any 1 [⟨#[124]⟩, ⟨#[61]⟩] _ 2 W (by decide) hh

theorem make4 (b : Nat) (W : World) (hb : W.heap[b]? = some (.cells #[.string ⟨#[226, 137, 160]⟩, .string ⟨#[113]⟩] 9 (0, 0))) :
    Calls Tryz.prog 121 #[.int .i64 1, .slice (some ⟨b, 0, none⟩) 2 2] W fun e w' => ∃ v, e = .returned v ∧ w'.ownsRow W.heap.size tG 3 v gl4.length (glyCells gl4) ∧ Below W.heap.size W w' := by
  have hh : HoldsS W (some ⟨b, 0, none⟩) [⟨#[226, 137, 160]⟩, ⟨#[113]⟩] := holdsS_lit (T := 9) (fr := (0, 0)) hb
  exact typed_any 1 [⟨#[226, 137, 160]⟩, ⟨#[113]⟩] _ 2 2 1 W rfl rfl (by decide) hh

theorem make5 (b : Nat) (W : World) (hb : W.heap[b]? = some (.cells #[.string ⟨#[60]⟩, .string ⟨#[62]⟩] 9 (0, 0))) :
    Calls Tryz.prog 120 #[.int .i64 1, .slice (some ⟨b, 0, none⟩) 2 2] W fun e w' => ∃ v, e = .returned v ∧ w'.ownsRow W.heap.size tG 3 v gl5.length (glyCells gl5) ∧ Below W.heap.size W w' := by
  have hh : HoldsS W (some ⟨b, 0, none⟩) [⟨#[60]⟩, ⟨#[62]⟩] := holdsS_lit (T := 9) (fr := (0, 0)) hb
  exact plain_any 1 [⟨#[60]⟩, ⟨#[62]⟩] _ 2 W (by decide) hh

theorem make6 (b : Nat) (W : World) (hb : W.heap[b]? = some (.cells #[.string ⟨#[226, 137, 164]⟩, .string ⟨#[108]⟩, .string ⟨#[226, 137, 165]⟩, .string ⟨#[103]⟩, .string ⟨#[226, 136, 167]⟩, .string ⟨#[97]⟩, .string ⟨#[226, 136, 168]⟩, .string ⟨#[111]⟩] 9 (0, 0))) :
    Calls Tryz.prog 121 #[.int .i64 1, .slice (some ⟨b, 0, none⟩) 8 8] W fun e w' => ∃ v, e = .returned v ∧ w'.ownsRow W.heap.size tG 3 v gl6.length (glyCells gl6) ∧ Below W.heap.size W w' := by
  have hh : HoldsS W (some ⟨b, 0, none⟩) [⟨#[226, 137, 164]⟩, ⟨#[108]⟩, ⟨#[226, 137, 165]⟩, ⟨#[103]⟩, ⟨#[226, 136, 167]⟩, ⟨#[97]⟩, ⟨#[226, 136, 168]⟩, ⟨#[111]⟩] := holdsS_lit (T := 9) (fr := (0, 0)) hb
  exact typed_any 1 [⟨#[226, 137, 164]⟩, ⟨#[108]⟩, ⟨#[226, 137, 165]⟩, ⟨#[103]⟩, ⟨#[226, 136, 167]⟩, ⟨#[97]⟩, ⟨#[226, 136, 168]⟩, ⟨#[111]⟩] _ 8 8 4 W rfl rfl (by decide) hh

theorem make7 (b : Nat) (W : World) (hb : W.heap[b]? = some (.cells #[.string ⟨#[126]⟩] 9 (0, 0))) :
    Calls Tryz.prog 120 #[.int .i64 1, .slice (some ⟨b, 0, none⟩) 1 1] W fun e w' => ∃ v, e = .returned v ∧ w'.ownsRow W.heap.size tG 3 v gl7.length (glyCells gl7) ∧ Below W.heap.size W w' := by
  have hh : HoldsS W (some ⟨b, 0, none⟩) [⟨#[126]⟩] := holdsS_lit (T := 9) (fr := (0, 0)) hb
  exact plain_any 1 [⟨#[126]⟩] _ 1 W (by decide) hh

theorem make8 (b : Nat) (W : World) (hb : W.heap[b]? = some (.cells #[.string ⟨#[226, 141, 180]⟩, .string ⟨#[114]⟩, .string ⟨#[226, 141, 179]⟩, .string ⟨#[105]⟩] 9 (0, 0))) :
    Calls Tryz.prog 121 #[.int .i64 1, .slice (some ⟨b, 0, none⟩) 4 4] W fun e w' => ∃ v, e = .returned v ∧ w'.ownsRow W.heap.size tG 3 v gl8.length (glyCells gl8) ∧ Below W.heap.size W w' := by
  have hh : HoldsS W (some ⟨b, 0, none⟩) [⟨#[226, 141, 180]⟩, ⟨#[114]⟩, ⟨#[226, 141, 179]⟩, ⟨#[105]⟩] := holdsS_lit (T := 9) (fr := (0, 0)) hb
  exact typed_any 1 [⟨#[226, 141, 180]⟩, ⟨#[114]⟩, ⟨#[226, 141, 179]⟩, ⟨#[105]⟩] _ 4 4 2 W rfl rfl (by decide) hh

theorem make9 (b : Nat) (W : World) (hb : W.heap[b]? = some (.cells #[.string ⟨#[44]⟩] 9 (0, 0))) :
    Calls Tryz.prog 120 #[.int .i64 1, .slice (some ⟨b, 0, none⟩) 1 1] W fun e w' => ∃ v, e = .returned v ∧ w'.ownsRow W.heap.size tG 3 v gl9.length (glyCells gl9) ∧ Below W.heap.size W w' := by
  have hh : HoldsS W (some ⟨b, 0, none⟩) [⟨#[44]⟩] := holdsS_lit (T := 9) (fr := (0, 0)) hb
  exact plain_any 1 [⟨#[44]⟩] _ 1 W (by decide) hh

theorem make10 (b : Nat) (W : World) (hb : W.heap[b]? = some (.cells #[.string ⟨#[226, 140, 189]⟩, .string ⟨#[116]⟩, .string ⟨#[226, 134, 145]⟩, .string ⟨#[107]⟩, .string ⟨#[226, 134, 147]⟩, .string ⟨#[106]⟩, .string ⟨#[226, 137, 162]⟩, .string ⟨#[109]⟩] 9 (0, 0))) :
    Calls Tryz.prog 121 #[.int .i64 1, .slice (some ⟨b, 0, none⟩) 8 8] W fun e w' => ∃ v, e = .returned v ∧ w'.ownsRow W.heap.size tG 3 v gl10.length (glyCells gl10) ∧ Below W.heap.size W w' := by
  have hh : HoldsS W (some ⟨b, 0, none⟩) [⟨#[226, 140, 189]⟩, ⟨#[116]⟩, ⟨#[226, 134, 145]⟩, ⟨#[107]⟩, ⟨#[226, 134, 147]⟩, ⟨#[106]⟩, ⟨#[226, 137, 162]⟩, ⟨#[109]⟩] := holdsS_lit (T := 9) (fr := (0, 0)) hb
  exact typed_any 1 [⟨#[226, 140, 189]⟩, ⟨#[116]⟩, ⟨#[226, 134, 145]⟩, ⟨#[107]⟩, ⟨#[226, 134, 147]⟩, ⟨#[106]⟩, ⟨#[226, 137, 162]⟩, ⟨#[109]⟩] _ 8 8 4 W rfl rfl (by decide) hh

theorem make11 (b : Nat) (W : World) (hb : W.heap[b]? = some (.cells #[.string ⟨#[47]⟩, .string ⟨#[92]⟩] 9 (0, 0))) :
    Calls Tryz.prog 120 #[.int .i64 2, .slice (some ⟨b, 0, none⟩) 2 2] W fun e w' => ∃ v, e = .returned v ∧ w'.ownsRow W.heap.size tG 3 v gl11.length (glyCells gl11) ∧ Below W.heap.size W w' := by
  have hh : HoldsS W (some ⟨b, 0, none⟩) [⟨#[47]⟩, ⟨#[92]⟩] := holdsS_lit (T := 9) (fr := (0, 0)) hb
  exact plain_any 2 [⟨#[47]⟩, ⟨#[92]⟩] _ 2 W (by decide) hh

theorem make12 (b : Nat) (W : World) (hb : W.heap[b]? = some (.cells #[.string ⟨#[194, 168]⟩, .string ⟨#[101]⟩, .string ⟨#[226, 141, 168]⟩, .string ⟨#[99]⟩] 9 (0, 0))) :
    Calls Tryz.prog 121 #[.int .i64 2, .slice (some ⟨b, 0, none⟩) 4 4] W fun e w' => ∃ v, e = .returned v ∧ w'.ownsRow W.heap.size tG 3 v gl12.length (glyCells gl12) ∧ Below W.heap.size W w' := by
  have hh : HoldsS W (some ⟨b, 0, none⟩) [⟨#[194, 168]⟩, ⟨#[101]⟩, ⟨#[226, 141, 168]⟩, ⟨#[99]⟩] := holdsS_lit (T := 9) (fr := (0, 0)) hb
  exact typed_any 2 [⟨#[194, 168]⟩, ⟨#[101]⟩, ⟨#[226, 141, 168]⟩, ⟨#[99]⟩] _ 4 4 2 W rfl rfl (by decide) hh

theorem make13 (b : Nat) (W : World) (hb : W.heap[b]? = some (.cells #[.string ⟨#[226, 134, 144]⟩, .string ⟨#[115]⟩, .string ⟨#[226, 139, 132]⟩, .string ⟨#[122]⟩] 9 (0, 0))) :
    Calls Tryz.prog 121 #[.int .i64 3, .slice (some ⟨b, 0, none⟩) 4 4] W fun e w' => ∃ v, e = .returned v ∧ w'.ownsRow W.heap.size tG 3 v gl13.length (glyCells gl13) ∧ Below W.heap.size W w' := by
  have hh : HoldsS W (some ⟨b, 0, none⟩) [⟨#[226, 134, 144]⟩, ⟨#[115]⟩, ⟨#[226, 139, 132]⟩, ⟨#[122]⟩] := holdsS_lit (T := 9) (fr := (0, 0)) hb
  exact typed_any 3 [⟨#[226, 134, 144]⟩, ⟨#[115]⟩, ⟨#[226, 139, 132]⟩, ⟨#[122]⟩] _ 4 4 2 W rfl rfl (by decide) hh

theorem make14 (b : Nat) (W : World) (hb : W.heap[b]? = some (.cells #[.string ⟨#[58]⟩, .string ⟨#[123]⟩, .string ⟨#[125]⟩, .string ⟨#[40]⟩, .string ⟨#[41]⟩] 9 (0, 0))) :
    Calls Tryz.prog 120 #[.int .i64 3, .slice (some ⟨b, 0, none⟩) 5 5] W fun e w' => ∃ v, e = .returned v ∧ w'.ownsRow W.heap.size tG 3 v gl14.length (glyCells gl14) ∧ Below W.heap.size W w' := by
  have hh : HoldsS W (some ⟨b, 0, none⟩) [⟨#[58]⟩, ⟨#[123]⟩, ⟨#[125]⟩, ⟨#[40]⟩, ⟨#[41]⟩] := holdsS_lit (T := 9) (fr := (0, 0)) hb
  exact plain_any 3 [⟨#[58]⟩, ⟨#[123]⟩, ⟨#[125]⟩, ⟨#[40]⟩, ⟨#[41]⟩] _ 5 W (by decide) hh

theorem make15 (b : Nat) (W : World) (hb : W.heap[b]? = some (.cells #[.string ⟨#[226, 141, 186]⟩, .string ⟨#[112]⟩, .string ⟨#[226, 141, 181]⟩, .string ⟨#[119]⟩] 9 (0, 0))) :
    Calls Tryz.prog 121 #[.int .i64 4, .slice (some ⟨b, 0, none⟩) 4 4] W fun e w' => ∃ v, e = .returned v ∧ w'.ownsRow W.heap.size tG 3 v gl15.length (glyCells gl15) ∧ Below W.heap.size W w' := by
  have hh : HoldsS W (some ⟨b, 0, none⟩) [⟨#[226, 141, 186]⟩, ⟨#[112]⟩, ⟨#[226, 141, 181]⟩, ⟨#[119]⟩] := holdsS_lit (T := 9) (fr := (0, 0)) hb
  exact typed_any 4 [⟨#[226, 141, 186]⟩, ⟨#[112]⟩, ⟨#[226, 141, 181]⟩, ⟨#[119]⟩] _ 4 4 2 W rfl rfl (by decide) hh

theorem make16 (b : Nat) (W : World) (hb : W.heap[b]? = some (.cells #[.string ⟨#[194, 175]⟩, .string ⟨#[104]⟩] 9 (0, 0))) :
    Calls Tryz.prog 121 #[.int .i64 5, .slice (some ⟨b, 0, none⟩) 2 2] W fun e w' => ∃ v, e = .returned v ∧ w'.ownsRow W.heap.size tG 3 v gl16.length (glyCells gl16) ∧ Below W.heap.size W w' := by
  have hh : HoldsS W (some ⟨b, 0, none⟩) [⟨#[194, 175]⟩, ⟨#[104]⟩] := holdsS_lit (T := 9) (fr := (0, 0)) hb
  exact typed_any 5 [⟨#[194, 175]⟩, ⟨#[104]⟩] _ 2 2 1 W rfl rfl (by decide) hh

theorem make17 (b : Nat) (W : World) (hb : W.heap[b]? = some (.cells #[.string ⟨#[226, 141, 157]⟩, .string ⟨#[98]⟩] 9 (0, 0))) :
    Calls Tryz.prog 121 #[.int .i64 6, .slice (some ⟨b, 0, none⟩) 2 2] W fun e w' => ∃ v, e = .returned v ∧ w'.ownsRow W.heap.size tG 3 v gl17.length (glyCells gl17) ∧ Below W.heap.size W w' := by
  have hh : HoldsS W (some ⟨b, 0, none⟩) [⟨#[226, 141, 157]⟩, ⟨#[98]⟩] := holdsS_lit (T := 9) (fr := (0, 0)) hb
  exact typed_any 6 [⟨#[226, 141, 157]⟩, ⟨#[98]⟩] _ 2 2 1 W rfl rfl (by decide) hh


set_option maxRecDepth 100000 in
set_option maxHeartbeats 8000000 in
theorem fill1_any (T p : Nat) (x y z : Value) (l0 m0 : Value) (w : World) (hp : w.cell? ⟨p, 0, none⟩ = some (.pointer (some ⟨T, 0, none⟩))) (hrow : w.heap[T]? = some (.cells #[x, y, z, .slice none 0 0, .map none] tT (0, 0))) (hpT : p ≠ T) :
    Calls Tryz.prog 118 #[.pointer (some ⟨p, 0, none⟩)] w fun e w' => e = .returned (.tuple #[]) ∧ Tab w w.heap.size T [x, y, z] w.heap.size glyphs w' := by
  have hT : T < w.heap.size := (Array.getElem?_eq_some_iff.1 hrow).1
  have hpl : p < w.heap.size := cell_lt hp
  have c4 : w.cell? ⟨T, 4, none⟩ = some (.map none) := by simp [World.cell?, hrow]
  have z4 : w.frozen? ⟨T, 4, none⟩ = false := frozen_of_row w _ 4 _ _ hrow
  have hmm := @run_makeMap Tryz.prog
  go_enter Tryz.func118, Tryz.ntmps118
  go_wp2_with fail
  have hrow0 : ((w.setCell ⟨T, 4, none⟩ (.map (some w.heap.size))).alloc (.map #[] 0)).heap[T]? = some (.cells #[x, y, z, .slice none 0 0, .map (some w.heap.size)] tT (0, 0)) := by
    have hz : (w.setCell ⟨T, 4, none⟩ (.map (some w.heap.size))).heap.size = w.heap.size := by simp
    refine (Lib.alloc_old _ _ T (by omega)).trans ?_
    rw [heap_setCell_same _ T 4 _ _ _ hrow]
    simp
  have hz : (w.setCell ⟨T, 4, none⟩ (.map (some w.heap.size))).heap.size = w.heap.size := by simp
  have hk0 : KeptBut w.heap.size T w ((w.setCell ⟨T, 4, none⟩ (.map (some w.heap.size))).alloc (.map #[] 0)) := (KeptBut.setT _ _ _ _ _).trans (KeptBut.of_below (below_new _ _) (by omega))
  have hm0 := MapIs.made (w.setCell ⟨T, 4, none⟩ (.map (some w.heap.size))) Tryz.prog 9
  rw [hz] at hm0
  have ht0 : Hid (Tab w w.heap.size T [x, y, z] w.heap.size glTo0 ((w.setCell ⟨T, 4, none⟩ (.map (some w.heap.size))).alloc (.map #[] 0))) :=
    Lib.hid ⟨.slice none 0 0, ⟨hrow0, World.ownsRow_nil _ _ _ _, hm0, Nat.le_refl _⟩, hk0, hk0.size⟩
  clear hm0 hz
  have HP := Lib.hid hp
  clear hp hrow c4 z4 hrow0 hk0 hmm
  generalize (w.setCell ⟨T, 4, none⟩ (.map (some w.heap.size))).alloc (.map #[] 0) = W0 at *

  have p1 := ht0.out.cell hpl hpT HP.out
  have q1 : (W0.alloc (.cells #[.string ⟨#[43]⟩, .string ⟨#[45]⟩] 9)).drew.cell? ⟨p, 0, none⟩ = some (.pointer (some ⟨T, 0, none⟩)) := (World.cell?_alloc_lt _ _ _ (cell_lt p1)).trans p1
  have ta1 := Lib.hid (ht0.out.below ((below_new W0 (.cells #[.string ⟨#[43]⟩, .string ⟨#[45]⟩] 9)).drew))
  have HM1 := Lib.hid (make1 W0.heap.size (W0.alloc (.cells #[.string ⟨#[43]⟩, .string ⟨#[45]⟩] 9)).drew (heap_alloc_new W0 _))
  go_wp2_with fail
  refine wp_region_ord (S := fun w' => w'.cell? ⟨p, 0, none⟩ = some (.pointer (some ⟨T, 0, none⟩))) [0] [1, 2, 3] (by kernel_rfl) (by kernel_rfl) (fun _ _ _ _ _ h => h) p1 ?_
  simp only [pick, List.filterMap_cons, List.filterMap_nil, List.getElem?_toArray, List.getElem?_cons_zero, List.getElem?_cons_succ]
  repeat (refine wpHead_step (v := ?_) rfl ?_ ?_; rotate_left; (focus (rintro w1 hp'; go_simp; try with_reducible rfl)); simp only [Act.put, List.setIfInBounds_toArray, List.set_cons_zero, List.set_cons_succ])
  refine wpHead_nil ?_
  refine wpTail_step rfl (fun K hK => ?_)
  go_wp2_with fail
  refine hK _ _ q1 ?_
  clear hK K
  try simp only [Act.put, List.setIfInBounds_toArray, List.set_cons_zero, List.set_cons_succ]
  refine wpTail_step rfl (fun K hK => ?_)
  go_wp2_with fail
  refine HM1.out.mono ?_
  rintro e V1 ⟨v1, rfl, hf1, hb1⟩
  have s1 := (ta1.out.below hb1).cell hpl hpT HP.out
  have HA1 := Lib.hid (tab_add rfl hT ta1.out hf1 hb1 gl1_fine.1 gl1_fine.2)
  clear p1 q1 hf1 hb1
  go_wp2_with fail
  refine hK _ _ s1 ?_
  clear hK K
  try simp only [Act.put, List.setIfInBounds_toArray, List.set_cons_zero, List.set_cons_succ]
  refine wpTail_step rfl (fun K hK => ?_)
  go_wp2_with fail
  refine HA1.out.mono ?_
  rintro e W1 ⟨rfl, h1⟩
  have t1 := h1.cell hpl hpT HP.out
  have ht1 : Hid (Tab w w.heap.size T [x, y, z] w.heap.size glTo1 W1) := Lib.hid h1
  clear h1 HA1 HM1 ta1 s1 ht0
  go_wp2_with fail
  refine hK _ _ t1 ?_
  clear hK K
  try simp only [Act.put, List.setIfInBounds_toArray, List.set_cons_zero, List.set_cons_succ]
  refine wpTail_nil ?_
  clear t1
  have p2 := ht1.out.cell hpl hpT HP.out
  have q2 : (W1.alloc (.cells #[.string ⟨#[195, 151]⟩, .string ⟨#[120]⟩, .string ⟨#[195, 183]⟩, .string ⟨#[100]⟩, .string ⟨#[226, 140, 136]⟩, .string ⟨#[117]⟩, .string ⟨#[226, 140, 138]⟩, .string ⟨#[110]⟩] 9)).drew.cell? ⟨p, 0, none⟩ = some (.pointer (some ⟨T, 0, none⟩)) := (World.cell?_alloc_lt _ _ _ (cell_lt p2)).trans p2
  have ta2 := Lib.hid (ht1.out.below ((below_new W1 (.cells #[.string ⟨#[195, 151]⟩, .string ⟨#[120]⟩, .string ⟨#[195, 183]⟩, .string ⟨#[100]⟩, .string ⟨#[226, 140, 136]⟩, .string ⟨#[117]⟩, .string ⟨#[226, 140, 138]⟩, .string ⟨#[110]⟩] 9)).drew))
  have HM2 := Lib.hid (make2 W1.heap.size (W1.alloc (.cells #[.string ⟨#[195, 151]⟩, .string ⟨#[120]⟩, .string ⟨#[195, 183]⟩, .string ⟨#[100]⟩, .string ⟨#[226, 140, 136]⟩, .string ⟨#[117]⟩, .string ⟨#[226, 140, 138]⟩, .string ⟨#[110]⟩] 9)).drew (heap_alloc_new W1 _))
  go_wp2_with fail
  refine wp_region_ord (S := fun w' => w'.cell? ⟨p, 0, none⟩ = some (.pointer (some ⟨T, 0, none⟩))) [0] [1, 2, 3] (by kernel_rfl) (by kernel_rfl) (fun _ _ _ _ _ h => h) p2 ?_
  simp only [pick, List.filterMap_cons, List.filterMap_nil, List.getElem?_toArray, List.getElem?_cons_zero, List.getElem?_cons_succ]
  repeat (refine wpHead_step (v := ?_) rfl ?_ ?_; rotate_left; (focus (rintro w1 hp'; go_simp; try with_reducible rfl)); simp only [Act.put, List.setIfInBounds_toArray, List.set_cons_zero, List.set_cons_succ])
  refine wpHead_nil ?_
  refine wpTail_step rfl (fun K hK => ?_)
  go_wp2_with fail
  refine hK _ _ q2 ?_
  clear hK K
  try simp only [Act.put, List.setIfInBounds_toArray, List.set_cons_zero, List.set_cons_succ]
  refine wpTail_step rfl (fun K hK => ?_)
  go_wp2_with fail
  refine HM2.out.mono ?_
  rintro e V2 ⟨v2, rfl, hf2, hb2⟩
  have s2 := (ta2.out.below hb2).cell hpl hpT HP.out
  have HA2 := Lib.hid (tab_add rfl hT ta2.out hf2 hb2 gl2_fine.1 gl2_fine.2)
  clear p2 q2 hf2 hb2
  go_wp2_with fail
  refine hK _ _ s2 ?_
  clear hK K
  try simp only [Act.put, List.setIfInBounds_toArray, List.set_cons_zero, List.set_cons_succ]
  refine wpTail_step rfl (fun K hK => ?_)
  go_wp2_with fail
  refine HA2.out.mono ?_
  rintro e W2 ⟨rfl, h2⟩
  have t2 := h2.cell hpl hpT HP.out
  have ht2 : Hid (Tab w w.heap.size T [x, y, z] w.heap.size glTo2 W2) := Lib.hid h2
  clear h2 HA2 HM2 ta2 s2 ht1
  go_wp2_with fail
  refine hK _ _ t2 ?_
  clear hK K
  try simp only [Act.put, List.setIfInBounds_toArray, List.set_cons_zero, List.set_cons_succ]
  refine wpTail_nil ?_
  clear t2
  have p3 := ht2.out.cell hpl hpT HP.out
  have q3 : (W2.alloc (.cells #[.string ⟨#[124]⟩, .string ⟨#[61]⟩] 9)).drew.cell? ⟨p, 0, none⟩ = some (.pointer (some ⟨T, 0, none⟩)) := (World.cell?_alloc_lt _ _ _ (cell_lt p3)).trans p3
  have ta3 := Lib.hid (ht2.out.below ((below_new W2 (.cells #[.string ⟨#[124]⟩, .string ⟨#[61]⟩] 9)).drew))
  have HM3 := Lib.hid (make3 W2.heap.size (W2.alloc (.cells #[.string ⟨#[124]⟩, .string ⟨#[61]⟩] 9)).drew (heap_alloc_new W2 _))
  go_wp2_with fail
  refine wp_region_ord (S := fun w' => w'.cell? ⟨p, 0, none⟩ = some (.pointer (some ⟨T, 0, none⟩))) [0] [1, 2, 3] (by kernel_rfl) (by kernel_rfl) (fun _ _ _ _ _ h => h) p3 ?_
  simp only [pick, List.filterMap_cons, List.filterMap_nil, List.getElem?_toArray, List.getElem?_cons_zero, List.getElem?_cons_succ]
  repeat (refine wpHead_step (v := ?_) rfl ?_ ?_; rotate_left; (focus (rintro w1 hp'; go_simp; try with_reducible rfl)); simp only [Act.put, List.setIfInBounds_toArray, List.set_cons_zero, List.set_cons_succ])
  refine wpHead_nil ?_
  refine wpTail_step rfl (fun K hK => ?_)
  go_wp2_with fail
  refine hK _ _ q3 ?_
  clear hK K
  try simp only [Act.put, List.setIfInBounds_toArray, List.set_cons_zero, List.set_cons_succ]
  refine wpTail_step rfl (fun K hK => ?_)
  go_wp2_with fail
  refine HM3.out.mono ?_
  rintro e V3 ⟨v3, rfl, hf3, hb3⟩
  have s3 := (ta3.out.below hb3).cell hpl hpT HP.out
  have HA3 := Lib.hid (tab_add rfl hT ta3.out hf3 hb3 gl3_fine.1 gl3_fine.2)
  clear p3 q3 hf3 hb3
  go_wp2_with fail
  refine hK _ _ s3 ?_
  clear hK K
  try simp only [Act.put, List.setIfInBounds_toArray, List.set_cons_zero, List.set_cons_succ]
  refine wpTail_step rfl (fun K hK => ?_)
  go_wp2_with fail
  refine HA3.out.mono ?_
  rintro e W3 ⟨rfl, h3⟩
  have t3 := h3.cell hpl hpT HP.out
  have ht3 : Hid (Tab w w.heap.size T [x, y, z] w.heap.size glTo3 W3) := Lib.hid h3
  clear h3 HA3 HM3 ta3 s3 ht2
  go_wp2_with fail
  refine hK _ _ t3 ?_
  clear hK K
  try simp only [Act.put, List.setIfInBounds_toArray, List.set_cons_zero, List.set_cons_succ]
  refine wpTail_nil ?_
  clear t3
  have p4 := ht3.out.cell hpl hpT HP.out
  have q4 : (W3.alloc (.cells #[.string ⟨#[226, 137, 160]⟩, .string ⟨#[113]⟩] 9)).drew.cell? ⟨p, 0, none⟩ = some (.pointer (some ⟨T, 0, none⟩)) := (World.cell?_alloc_lt _ _ _ (cell_lt p4)).trans p4
  have ta4 := Lib.hid (ht3.out.below ((below_new W3 (.cells #[.string ⟨#[226, 137, 160]⟩, .string ⟨#[113]⟩] 9)).drew))
  have HM4 := Lib.hid (make4 W3.heap.size (W3.alloc (.cells #[.string ⟨#[226, 137, 160]⟩, .string ⟨#[113]⟩] 9)).drew (heap_alloc_new W3 _))
  go_wp2_with fail
  refine wp_region_ord (S := fun w' => w'.cell? ⟨p, 0, none⟩ = some (.pointer (some ⟨T, 0, none⟩))) [0] [1, 2, 3] (by kernel_rfl) (by kernel_rfl) (fun _ _ _ _ _ h => h) p4 ?_
  simp only [pick, List.filterMap_cons, List.filterMap_nil, List.getElem?_toArray, List.getElem?_cons_zero, List.getElem?_cons_succ]
  repeat (refine wpHead_step (v := ?_) rfl ?_ ?_; rotate_left; (focus (rintro w1 hp'; go_simp; try with_reducible rfl)); simp only [Act.put, List.setIfInBounds_toArray, List.set_cons_zero, List.set_cons_succ])
  refine wpHead_nil ?_
  refine wpTail_step rfl (fun K hK => ?_)
  go_wp2_with fail
  refine hK _ _ q4 ?_
  clear hK K
  try simp only [Act.put, List.setIfInBounds_toArray, List.set_cons_zero, List.set_cons_succ]
  refine wpTail_step rfl (fun K hK => ?_)
  go_wp2_with fail
  refine HM4.out.mono ?_
  rintro e V4 ⟨v4, rfl, hf4, hb4⟩
  have s4 := (ta4.out.below hb4).cell hpl hpT HP.out
  have HA4 := Lib.hid (tab_add rfl hT ta4.out hf4 hb4 gl4_fine.1 gl4_fine.2)
  clear p4 q4 hf4 hb4
  go_wp2_with fail
  refine hK _ _ s4 ?_
  clear hK K
  try simp only [Act.put, List.setIfInBounds_toArray, List.set_cons_zero, List.set_cons_succ]
  refine wpTail_step rfl (fun K hK => ?_)
  go_wp2_with fail
  refine HA4.out.mono ?_
  rintro e W4 ⟨rfl, h4⟩
  have t4 := h4.cell hpl hpT HP.out
  have ht4 : Hid (Tab w w.heap.size T [x, y, z] w.heap.size glTo4 W4) := Lib.hid h4
  clear h4 HA4 HM4 ta4 s4 ht3
  go_wp2_with fail
  refine hK _ _ t4 ?_
  clear hK K
  try simp only [Act.put, List.setIfInBounds_toArray, List.set_cons_zero, List.set_cons_succ]
  refine wpTail_nil ?_
  clear t4
  have p5 := ht4.out.cell hpl hpT HP.out
  have q5 : (W4.alloc (.cells #[.string ⟨#[60]⟩, .string ⟨#[62]⟩] 9)).drew.cell? ⟨p, 0, none⟩ = some (.pointer (some ⟨T, 0, none⟩)) := (World.cell?_alloc_lt _ _ _ (cell_lt p5)).trans p5
  have ta5 := Lib.hid (ht4.out.below ((below_new W4 (.cells #[.string ⟨#[60]⟩, .string ⟨#[62]⟩] 9)).drew))
  have HM5 := Lib.hid (make5 W4.heap.size (W4.alloc (.cells #[.string ⟨#[60]⟩, .string ⟨#[62]⟩] 9)).drew (heap_alloc_new W4 _))
  go_wp2_with fail
  refine wp_region_ord (S := fun w' => w'.cell? ⟨p, 0, none⟩ = some (.pointer (some ⟨T, 0, none⟩))) [0] [1, 2, 3] (by kernel_rfl) (by kernel_rfl) (fun _ _ _ _ _ h => h) p5 ?_
  simp only [pick, List.filterMap_cons, List.filterMap_nil, List.getElem?_toArray, List.getElem?_cons_zero, List.getElem?_cons_succ]
  repeat (refine wpHead_step (v := ?_) rfl ?_ ?_; rotate_left; (focus (rintro w1 hp'; go_simp; try with_reducible rfl)); simp only [Act.put, List.setIfInBounds_toArray, List.set_cons_zero, List.set_cons_succ])
  refine wpHead_nil ?_
  refine wpTail_step rfl (fun K hK => ?_)
  go_wp2_with fail
  refine hK _ _ q5 ?_
  clear hK K
  try simp only [Act.put, List.setIfInBounds_toArray, List.set_cons_zero, List.set_cons_succ]
  refine wpTail_step rfl (fun K hK => ?_)
  go_wp2_with fail
  refine HM5.out.mono ?_
  rintro e V5 ⟨v5, rfl, hf5, hb5⟩
  have s5 := (ta5.out.below hb5).cell hpl hpT HP.out
  have HA5 := Lib.hid (tab_add rfl hT ta5.out hf5 hb5 gl5_fine.1 gl5_fine.2)
  clear p5 q5 hf5 hb5
  go_wp2_with fail
  refine hK _ _ s5 ?_
  clear hK K
  try simp only [Act.put, List.setIfInBounds_toArray, List.set_cons_zero, List.set_cons_succ]
  refine wpTail_step rfl (fun K hK => ?_)
  go_wp2_with fail
  refine HA5.out.mono ?_
  rintro e W5 ⟨rfl, h5⟩
  have t5 := h5.cell hpl hpT HP.out
  have ht5 : Hid (Tab w w.heap.size T [x, y, z] w.heap.size glTo5 W5) := Lib.hid h5
  clear h5 HA5 HM5 ta5 s5 ht4
  go_wp2_with fail
  refine hK _ _ t5 ?_
  clear hK K
  try simp only [Act.put, List.setIfInBounds_toArray, List.set_cons_zero, List.set_cons_succ]
  refine wpTail_nil ?_
  clear t5
  have p6 := ht5.out.cell hpl hpT HP.out
  have q6 : (W5.alloc (.cells #[.string ⟨#[226, 137, 164]⟩, .string ⟨#[108]⟩, .string ⟨#[226, 137, 165]⟩, .string ⟨#[103]⟩, .string ⟨#[226, 136, 167]⟩, .string ⟨#[97]⟩, .string ⟨#[226, 136, 168]⟩, .string ⟨#[111]⟩] 9)).drew.cell? ⟨p, 0, none⟩ = some (.pointer (some ⟨T, 0, none⟩)) := (World.cell?_alloc_lt _ _ _ (cell_lt p6)).trans p6
  have ta6 := Lib.hid (ht5.out.below ((below_new W5 (.cells #[.string ⟨#[226, 137, 164]⟩, .string ⟨#[108]⟩, .string ⟨#[226, 137, 165]⟩, .string ⟨#[103]⟩, .string ⟨#[226, 136, 167]⟩, .string ⟨#[97]⟩, .string ⟨#[226, 136, 168]⟩, .string ⟨#[111]⟩] 9)).drew))
  have HM6 := Lib.hid (make6 W5.heap.size (W5.alloc (.cells #[.string ⟨#[226, 137, 164]⟩, .string ⟨#[108]⟩, .string ⟨#[226, 137, 165]⟩, .string ⟨#[103]⟩, .string ⟨#[226, 136, 167]⟩, .string ⟨#[97]⟩, .string ⟨#[226, 136, 168]⟩, .string ⟨#[111]⟩] 9)).drew (heap_alloc_new W5 _))
  go_wp2_with fail
  refine wp_region_ord (S := fun w' => w'.cell? ⟨p, 0, none⟩ = some (.pointer (some ⟨T, 0, none⟩))) [0] [1, 2, 3] (by kernel_rfl) (by kernel_rfl) (fun _ _ _ _ _ h => h) p6 ?_
  simp only [pick, List.filterMap_cons, List.filterMap_nil, List.getElem?_toArray, List.getElem?_cons_zero, List.getElem?_cons_succ]
  repeat (refine wpHead_step (v := ?_) rfl ?_ ?_; rotate_left; (focus (rintro w1 hp'; go_simp; try with_reducible rfl)); simp only [Act.put, List.setIfInBounds_toArray, List.set_cons_zero, List.set_cons_succ])
  refine wpHead_nil ?_
  refine wpTail_step rfl (fun K hK => ?_)
  go_wp2_with fail
  refine hK _ _ q6 ?_
  clear hK K
  try simp only [Act.put, List.setIfInBounds_toArray, List.set_cons_zero, List.set_cons_succ]
  refine wpTail_step rfl (fun K hK => ?_)
  go_wp2_with fail
  refine HM6.out.mono ?_
  rintro e V6 ⟨v6, rfl, hf6, hb6⟩
  have s6 := (ta6.out.below hb6).cell hpl hpT HP.out
  have HA6 := Lib.hid (tab_add rfl hT ta6.out hf6 hb6 gl6_fine.1 gl6_fine.2)
  clear p6 q6 hf6 hb6
  go_wp2_with fail
  refine hK _ _ s6 ?_
  clear hK K
  try simp only [Act.put, List.setIfInBounds_toArray, List.set_cons_zero, List.set_cons_succ]
  refine wpTail_step rfl (fun K hK => ?_)
  go_wp2_with fail
  refine HA6.out.mono ?_
  rintro e W6 ⟨rfl, h6⟩
  have t6 := h6.cell hpl hpT HP.out
  have ht6 : Hid (Tab w w.heap.size T [x, y, z] w.heap.size glTo6 W6) := Lib.hid h6
  clear h6 HA6 HM6 ta6 s6 ht5
  go_wp2_with fail
  refine hK _ _ t6 ?_
  clear hK K
  try simp only [Act.put, List.setIfInBounds_toArray, List.set_cons_zero, List.set_cons_succ]
  refine wpTail_nil ?_
  clear t6
  have p7 := ht6.out.cell hpl hpT HP.out
  have q7 : (W6.alloc (.cells #[.string ⟨#[126]⟩] 9)).drew.cell? ⟨p, 0, none⟩ = some (.pointer (some ⟨T, 0, none⟩)) := (World.cell?_alloc_lt _ _ _ (cell_lt p7)).trans p7
  have ta7 := Lib.hid (ht6.out.below ((below_new W6 (.cells #[.string ⟨#[126]⟩] 9)).drew))
  have HM7 := Lib.hid (make7 W6.heap.size (W6.alloc (.cells #[.string ⟨#[126]⟩] 9)).drew (heap_alloc_new W6 _))
  go_wp2_with fail
  refine wp_region_ord (S := fun w' => w'.cell? ⟨p, 0, none⟩ = some (.pointer (some ⟨T, 0, none⟩))) [0] [1, 2, 3] (by kernel_rfl) (by kernel_rfl) (fun _ _ _ _ _ h => h) p7 ?_
  simp only [pick, List.filterMap_cons, List.filterMap_nil, List.getElem?_toArray, List.getElem?_cons_zero, List.getElem?_cons_succ]
  repeat (refine wpHead_step (v := ?_) rfl ?_ ?_; rotate_left; (focus (rintro w1 hp'; go_simp; try with_reducible rfl)); simp only [Act.put, List.setIfInBounds_toArray, List.set_cons_zero, List.set_cons_succ])
  refine wpHead_nil ?_
  refine wpTail_step rfl (fun K hK => ?_)
  go_wp2_with fail
  refine hK _ _ q7 ?_
  clear hK K
  try simp only [Act.put, List.setIfInBounds_toArray, List.set_cons_zero, List.set_cons_succ]
  refine wpTail_step rfl (fun K hK => ?_)
  go_wp2_with fail
  refine HM7.out.mono ?_
  rintro e V7 ⟨v7, rfl, hf7, hb7⟩
  have s7 := (ta7.out.below hb7).cell hpl hpT HP.out
  have HA7 := Lib.hid (tab_add rfl hT ta7.out hf7 hb7 gl7_fine.1 gl7_fine.2)
  clear p7 q7 hf7 hb7
  go_wp2_with fail
  refine hK _ _ s7 ?_
  clear hK K
  try simp only [Act.put, List.setIfInBounds_toArray, List.set_cons_zero, List.set_cons_succ]
  refine wpTail_step rfl (fun K hK => ?_)
  go_wp2_with fail
  refine HA7.out.mono ?_
  rintro e W7 ⟨rfl, h7⟩
  have t7 := h7.cell hpl hpT HP.out
  have ht7 : Hid (Tab w w.heap.size T [x, y, z] w.heap.size glTo7 W7) := Lib.hid h7
  clear h7 HA7 HM7 ta7 s7 ht6
  go_wp2_with fail
  refine hK _ _ t7 ?_
  clear hK K
  try simp only [Act.put, List.setIfInBounds_toArray, List.set_cons_zero, List.set_cons_succ]
  refine wpTail_nil ?_
  clear t7
  have p8 := ht7.out.cell hpl hpT HP.out
  have q8 : (W7.alloc (.cells #[.string ⟨#[226, 141, 180]⟩, .string ⟨#[114]⟩, .string ⟨#[226, 141, 179]⟩, .string ⟨#[105]⟩] 9)).drew.cell? ⟨p, 0, none⟩ = some (.pointer (some ⟨T, 0, none⟩)) := (World.cell?_alloc_lt _ _ _ (cell_lt p8)).trans p8
  have ta8 := Lib.hid (ht7.out.below ((below_new W7 (.cells #[.string ⟨#[226, 141, 180]⟩, .string ⟨#[114]⟩, .string ⟨#[226, 141, 179]⟩, .string ⟨#[105]⟩] 9)).drew))
  have HM8 := Lib.hid (make8 W7.heap.size (W7.alloc (.cells #[.string ⟨#[226, 141, 180]⟩, .string ⟨#[114]⟩, .string ⟨#[226, 141, 179]⟩, .string ⟨#[105]⟩] 9)).drew (heap_alloc_new W7 _))
  go_wp2_with fail
  refine wp_region_ord (S := fun w' => w'.cell? ⟨p, 0, none⟩ = some (.pointer (some ⟨T, 0, none⟩))) [0] [1, 2, 3] (by kernel_rfl) (by kernel_rfl) (fun _ _ _ _ _ h => h) p8 ?_
  simp only [pick, List.filterMap_cons, List.filterMap_nil, List.getElem?_toArray, List.getElem?_cons_zero, List.getElem?_cons_succ]
  repeat (refine wpHead_step (v := ?_) rfl ?_ ?_; rotate_left; (focus (rintro w1 hp'; go_simp; try with_reducible rfl)); simp only [Act.put, List.setIfInBounds_toArray, List.set_cons_zero, List.set_cons_succ])
  refine wpHead_nil ?_
  refine wpTail_step rfl (fun K hK => ?_)
  go_wp2_with fail
  refine hK _ _ q8 ?_
  clear hK K
  try simp only [Act.put, List.setIfInBounds_toArray, List.set_cons_zero, List.set_cons_succ]
  refine wpTail_step rfl (fun K hK => ?_)
  go_wp2_with fail
  refine HM8.out.mono ?_
  rintro e V8 ⟨v8, rfl, hf8, hb8⟩
  have s8 := (ta8.out.below hb8).cell hpl hpT HP.out
  have HA8 := Lib.hid (tab_add rfl hT ta8.out hf8 hb8 gl8_fine.1 gl8_fine.2)
  clear p8 q8 hf8 hb8
  go_wp2_with fail
  refine hK _ _ s8 ?_
  clear hK K
  try simp only [Act.put, List.setIfInBounds_toArray, List.set_cons_zero, List.set_cons_succ]
  refine wpTail_step rfl (fun K hK => ?_)
  go_wp2_with fail
  refine HA8.out.mono ?_
  rintro e W8 ⟨rfl, h8⟩
  have t8 := h8.cell hpl hpT HP.out
  have ht8 : Hid (Tab w w.heap.size T [x, y, z] w.heap.size glTo8 W8) := Lib.hid h8
  clear h8 HA8 HM8 ta8 s8 ht7
  go_wp2_with fail
  refine hK _ _ t8 ?_
  clear hK K
  try simp only [Act.put, List.setIfInBounds_toArray, List.set_cons_zero, List.set_cons_succ]
  refine wpTail_nil ?_
  clear t8
  have p9 := ht8.out.cell hpl hpT HP.out
  have q9 : (W8.alloc (.cells #[.string ⟨#[44]⟩] 9)).drew.cell? ⟨p, 0, none⟩ = some (.pointer (some ⟨T, 0, none⟩)) := (World.cell?_alloc_lt _ _ _ (cell_lt p9)).trans p9
  have ta9 := Lib.hid (ht8.out.below ((below_new W8 (.cells #[.string ⟨#[44]⟩] 9)).drew))
  have HM9 := Lib.hid (make9 W8.heap.size (W8.alloc (.cells #[.string ⟨#[44]⟩] 9)).drew (heap_alloc_new W8 _))
  go_wp2_with fail
  refine wp_region_ord (S := fun w' => w'.cell? ⟨p, 0, none⟩ = some (.pointer (some ⟨T, 0, none⟩))) [0] [1, 2, 3] (by kernel_rfl) (by kernel_rfl) (fun _ _ _ _ _ h => h) p9 ?_
  simp only [pick, List.filterMap_cons, List.filterMap_nil, List.getElem?_toArray, List.getElem?_cons_zero, List.getElem?_cons_succ]
  repeat (refine wpHead_step (v := ?_) rfl ?_ ?_; rotate_left; (focus (rintro w1 hp'; go_simp; try with_reducible rfl)); simp only [Act.put, List.setIfInBounds_toArray, List.set_cons_zero, List.set_cons_succ])
  refine wpHead_nil ?_
  refine wpTail_step rfl (fun K hK => ?_)
  go_wp2_with fail
  refine hK _ _ q9 ?_
  clear hK K
  try simp only [Act.put, List.setIfInBounds_toArray, List.set_cons_zero, List.set_cons_succ]
  refine wpTail_step rfl (fun K hK => ?_)
  go_wp2_with fail
  refine HM9.out.mono ?_
  rintro e V9 ⟨v9, rfl, hf9, hb9⟩
  have s9 := (ta9.out.below hb9).cell hpl hpT HP.out
  have HA9 := Lib.hid (tab_add rfl hT ta9.out hf9 hb9 gl9_fine.1 gl9_fine.2)
  clear p9 q9 hf9 hb9
  go_wp2_with fail
  refine hK _ _ s9 ?_
  clear hK K
  try simp only [Act.put, List.setIfInBounds_toArray, List.set_cons_zero, List.set_cons_succ]
  refine wpTail_step rfl (fun K hK => ?_)
  go_wp2_with fail
  refine HA9.out.mono ?_
  rintro e W9 ⟨rfl, h9⟩
  have t9 := h9.cell hpl hpT HP.out
  have ht9 : Hid (Tab w w.heap.size T [x, y, z] w.heap.size glTo9 W9) := Lib.hid h9
  clear h9 HA9 HM9 ta9 s9 ht8
  go_wp2_with fail
  refine hK _ _ t9 ?_
  clear hK K
  try simp only [Act.put, List.setIfInBounds_toArray, List.set_cons_zero, List.set_cons_succ]
  refine wpTail_nil ?_
  clear t9
  have p10 := ht9.out.cell hpl hpT HP.out
  have q10 : (W9.alloc (.cells #[.string ⟨#[226, 140, 189]⟩, .string ⟨#[116]⟩, .string ⟨#[226, 134, 145]⟩, .string ⟨#[107]⟩, .string ⟨#[226, 134, 147]⟩, .string ⟨#[106]⟩, .string ⟨#[226, 137, 162]⟩, .string ⟨#[109]⟩] 9)).drew.cell? ⟨p, 0, none⟩ = some (.pointer (some ⟨T, 0, none⟩)) := (World.cell?_alloc_lt _ _ _ (cell_lt p10)).trans p10
  have ta10 := Lib.hid (ht9.out.below ((below_new W9 (.cells #[.string ⟨#[226, 140, 189]⟩, .string ⟨#[116]⟩, .string ⟨#[226, 134, 145]⟩, .string ⟨#[107]⟩, .string ⟨#[226, 134, 147]⟩, .string ⟨#[106]⟩, .string ⟨#[226, 137, 162]⟩, .string ⟨#[109]⟩] 9)).drew))
  have HM10 := Lib.hid (make10 W9.heap.size (W9.alloc (.cells #[.string ⟨#[226, 140, 189]⟩, .string ⟨#[116]⟩, .string ⟨#[226, 134, 145]⟩, .string ⟨#[107]⟩, .string ⟨#[226, 134, 147]⟩, .string ⟨#[106]⟩, .string ⟨#[226, 137, 162]⟩, .string ⟨#[109]⟩] 9)).drew (heap_alloc_new W9 _))
  go_wp2_with fail
  refine wp_region_ord (S := fun w' => w'.cell? ⟨p, 0, none⟩ = some (.pointer (some ⟨T, 0, none⟩))) [0] [1, 2, 3] (by kernel_rfl) (by kernel_rfl) (fun _ _ _ _ _ h => h) p10 ?_
  simp only [pick, List.filterMap_cons, List.filterMap_nil, List.getElem?_toArray, List.getElem?_cons_zero, List.getElem?_cons_succ]
  repeat (refine wpHead_step (v := ?_) rfl ?_ ?_; rotate_left; (focus (rintro w1 hp'; go_simp; try with_reducible rfl)); simp only [Act.put, List.setIfInBounds_toArray, List.set_cons_zero, List.set_cons_succ])
  refine wpHead_nil ?_
  refine wpTail_step rfl (fun K hK => ?_)
  go_wp2_with fail
  refine hK _ _ q10 ?_
  clear hK K
  try simp only [Act.put, List.setIfInBounds_toArray, List.set_cons_zero, List.set_cons_succ]
  refine wpTail_step rfl (fun K hK => ?_)
  go_wp2_with fail
  refine HM10.out.mono ?_
  rintro e V10 ⟨v10, rfl, hf10, hb10⟩
  have s10 := (ta10.out.below hb10).cell hpl hpT HP.out
  have HA10 := Lib.hid (tab_add rfl hT ta10.out hf10 hb10 gl10_fine.1 gl10_fine.2)
  clear p10 q10 hf10 hb10
  go_wp2_with fail
  refine hK _ _ s10 ?_
  clear hK K
  try simp only [Act.put, List.setIfInBounds_toArray, List.set_cons_zero, List.set_cons_succ]
  refine wpTail_step rfl (fun K hK => ?_)
  go_wp2_with fail
  refine HA10.out.mono ?_
  rintro e W10 ⟨rfl, h10⟩
  have t10 := h10.cell hpl hpT HP.out
  have ht10 : Hid (Tab w w.heap.size T [x, y, z] w.heap.size glTo10 W10) := Lib.hid h10
  clear h10 HA10 HM10 ta10 s10 ht9
  go_wp2_with fail
  refine hK _ _ t10 ?_
  clear hK K
  try simp only [Act.put, List.setIfInBounds_toArray, List.set_cons_zero, List.set_cons_succ]
  refine wpTail_nil ?_
  clear t10
  have p11 := ht10.out.cell hpl hpT HP.out
  have q11 : (W10.alloc (.cells #[.string ⟨#[47]⟩, .string ⟨#[92]⟩] 9)).drew.cell? ⟨p, 0, none⟩ = some (.pointer (some ⟨T, 0, none⟩)) := (World.cell?_alloc_lt _ _ _ (cell_lt p11)).trans p11
  have ta11 := Lib.hid (ht10.out.below ((below_new W10 (.cells #[.string ⟨#[47]⟩, .string ⟨#[92]⟩] 9)).drew))
  have HM11 := Lib.hid (make11 W10.heap.size (W10.alloc (.cells #[.string ⟨#[47]⟩, .string ⟨#[92]⟩] 9)).drew (heap_alloc_new W10 _))
  go_wp2_with fail
  refine wp_region_ord (S := fun w' => w'.cell? ⟨p, 0, none⟩ = some (.pointer (some ⟨T, 0, none⟩))) [0] [1, 2, 3] (by kernel_rfl) (by kernel_rfl) (fun _ _ _ _ _ h => h) p11 ?_
  simp only [pick, List.filterMap_cons, List.filterMap_nil, List.getElem?_toArray, List.getElem?_cons_zero, List.getElem?_cons_succ]
  repeat (refine wpHead_step (v := ?_) rfl ?_ ?_; rotate_left; (focus (rintro w1 hp'; go_simp; try with_reducible rfl)); simp only [Act.put, List.setIfInBounds_toArray, List.set_cons_zero, List.set_cons_succ])
  refine wpHead_nil ?_
  refine wpTail_step rfl (fun K hK => ?_)
  go_wp2_with fail
  refine hK _ _ q11 ?_
  clear hK K
  try simp only [Act.put, List.setIfInBounds_toArray, List.set_cons_zero, List.set_cons_succ]
  refine wpTail_step rfl (fun K hK => ?_)
  go_wp2_with fail
  refine HM11.out.mono ?_
  rintro e V11 ⟨v11, rfl, hf11, hb11⟩
  have s11 := (ta11.out.below hb11).cell hpl hpT HP.out
  have HA11 := Lib.hid (tab_add rfl hT ta11.out hf11 hb11 gl11_fine.1 gl11_fine.2)
  clear p11 q11 hf11 hb11
  go_wp2_with fail
  refine hK _ _ s11 ?_
  clear hK K
  try simp only [Act.put, List.setIfInBounds_toArray, List.set_cons_zero, List.set_cons_succ]
  refine wpTail_step rfl (fun K hK => ?_)
  go_wp2_with fail
  refine HA11.out.mono ?_
  rintro e W11 ⟨rfl, h11⟩
  have t11 := h11.cell hpl hpT HP.out
  have ht11 : Hid (Tab w w.heap.size T [x, y, z] w.heap.size glTo11 W11) := Lib.hid h11
  clear h11 HA11 HM11 ta11 s11 ht10
  go_wp2_with fail
  refine hK _ _ t11 ?_
  clear hK K
  try simp only [Act.put, List.setIfInBounds_toArray, List.set_cons_zero, List.set_cons_succ]
  refine wpTail_nil ?_
  clear t11
  have p12 := ht11.out.cell hpl hpT HP.out
  have q12 : (W11.alloc (.cells #[.string ⟨#[194, 168]⟩, .string ⟨#[101]⟩, .string ⟨#[226, 141, 168]⟩, .string ⟨#[99]⟩] 9)).drew.cell? ⟨p, 0, none⟩ = some (.pointer (some ⟨T, 0, none⟩)) := (World.cell?_alloc_lt _ _ _ (cell_lt p12)).trans p12
  have ta12 := Lib.hid (ht11.out.below ((below_new W11 (.cells #[.string ⟨#[194, 168]⟩, .string ⟨#[101]⟩, .string ⟨#[226, 141, 168]⟩, .string ⟨#[99]⟩] 9)).drew))
  have HM12 := Lib.hid (make12 W11.heap.size (W11.alloc (.cells #[.string ⟨#[194, 168]⟩, .string ⟨#[101]⟩, .string ⟨#[226, 141, 168]⟩, .string ⟨#[99]⟩] 9)).drew (heap_alloc_new W11 _))
  go_wp2_with fail
  refine wp_region_ord (S := fun w' => w'.cell? ⟨p, 0, none⟩ = some (.pointer (some ⟨T, 0, none⟩))) [0] [1, 2, 3] (by kernel_rfl) (by kernel_rfl) (fun _ _ _ _ _ h => h) p12 ?_
  simp only [pick, List.filterMap_cons, List.filterMap_nil, List.getElem?_toArray, List.getElem?_cons_zero, List.getElem?_cons_succ]
  repeat (refine wpHead_step (v := ?_) rfl ?_ ?_; rotate_left; (focus (rintro w1 hp'; go_simp; try with_reducible rfl)); simp only [Act.put, List.setIfInBounds_toArray, List.set_cons_zero, List.set_cons_succ])
  refine wpHead_nil ?_
  refine wpTail_step rfl (fun K hK => ?_)
  go_wp2_with fail
  refine hK _ _ q12 ?_
  clear hK K
  try simp only [Act.put, List.setIfInBounds_toArray, List.set_cons_zero, List.set_cons_succ]
  refine wpTail_step rfl (fun K hK => ?_)
  go_wp2_with fail
  refine HM12.out.mono ?_
  rintro e V12 ⟨v12, rfl, hf12, hb12⟩
  have s12 := (ta12.out.below hb12).cell hpl hpT HP.out
  have HA12 := Lib.hid (tab_add rfl hT ta12.out hf12 hb12 gl12_fine.1 gl12_fine.2)
  clear p12 q12 hf12 hb12
  go_wp2_with fail
  refine hK _ _ s12 ?_
  clear hK K
  try simp only [Act.put, List.setIfInBounds_toArray, List.set_cons_zero, List.set_cons_succ]
  refine wpTail_step rfl (fun K hK => ?_)
  go_wp2_with fail
  refine HA12.out.mono ?_
  rintro e W12 ⟨rfl, h12⟩
  have t12 := h12.cell hpl hpT HP.out
  have ht12 : Hid (Tab w w.heap.size T [x, y, z] w.heap.size glTo12 W12) := Lib.hid h12
  clear h12 HA12 HM12 ta12 s12 ht11
  go_wp2_with fail
  refine hK _ _ t12 ?_
  clear hK K
  try simp only [Act.put, List.setIfInBounds_toArray, List.set_cons_zero, List.set_cons_succ]
  refine wpTail_nil ?_
  clear t12
  have p13 := ht12.out.cell hpl hpT HP.out
  have q13 : (W12.alloc (.cells #[.string ⟨#[226, 134, 144]⟩, .string ⟨#[115]⟩, .string ⟨#[226, 139, 132]⟩, .string ⟨#[122]⟩] 9)).drew.cell? ⟨p, 0, none⟩ = some (.pointer (some ⟨T, 0, none⟩)) := (World.cell?_alloc_lt _ _ _ (cell_lt p13)).trans p13
  have ta13 := Lib.hid (ht12.out.below ((below_new W12 (.cells #[.string ⟨#[226, 134, 144]⟩, .string ⟨#[115]⟩, .string ⟨#[226, 139, 132]⟩, .string ⟨#[122]⟩] 9)).drew))
  have HM13 := Lib.hid (make13 W12.heap.size (W12.alloc (.cells #[.string ⟨#[226, 134, 144]⟩, .string ⟨#[115]⟩, .string ⟨#[226, 139, 132]⟩, .string ⟨#[122]⟩] 9)).drew (heap_alloc_new W12 _))
  go_wp2_with fail
  refine wp_region_ord (S := fun w' => w'.cell? ⟨p, 0, none⟩ = some (.pointer (some ⟨T, 0, none⟩))) [0] [1, 2, 3] (by kernel_rfl) (by kernel_rfl) (fun _ _ _ _ _ h => h) p13 ?_
  simp only [pick, List.filterMap_cons, List.filterMap_nil, List.getElem?_toArray, List.getElem?_cons_zero, List.getElem?_cons_succ]
  repeat (refine wpHead_step (v := ?_) rfl ?_ ?_; rotate_left; (focus (rintro w1 hp'; go_simp; try with_reducible rfl)); simp only [Act.put, List.setIfInBounds_toArray, List.set_cons_zero, List.set_cons_succ])
  refine wpHead_nil ?_
  refine wpTail_step rfl (fun K hK => ?_)
  go_wp2_with fail
  refine hK _ _ q13 ?_
  clear hK K
  try simp only [Act.put, List.setIfInBounds_toArray, List.set_cons_zero, List.set_cons_succ]
  refine wpTail_step rfl (fun K hK => ?_)
  go_wp2_with fail
  refine HM13.out.mono ?_
  rintro e V13 ⟨v13, rfl, hf13, hb13⟩
  have s13 := (ta13.out.below hb13).cell hpl hpT HP.out
  have HA13 := Lib.hid (tab_add rfl hT ta13.out hf13 hb13 gl13_fine.1 gl13_fine.2)
  clear p13 q13 hf13 hb13
  go_wp2_with fail
  refine hK _ _ s13 ?_
  clear hK K
  try simp only [Act.put, List.setIfInBounds_toArray, List.set_cons_zero, List.set_cons_succ]
  refine wpTail_step rfl (fun K hK => ?_)
  go_wp2_with fail
  refine HA13.out.mono ?_
  rintro e W13 ⟨rfl, h13⟩
  have t13 := h13.cell hpl hpT HP.out
  have ht13 : Hid (Tab w w.heap.size T [x, y, z] w.heap.size glTo13 W13) := Lib.hid h13
  clear h13 HA13 HM13 ta13 s13 ht12
  go_wp2_with fail
  refine hK _ _ t13 ?_
  clear hK K
  try simp only [Act.put, List.setIfInBounds_toArray, List.set_cons_zero, List.set_cons_succ]
  refine wpTail_nil ?_
  clear t13
  have p14 := ht13.out.cell hpl hpT HP.out
  have q14 : (W13.alloc (.cells #[.string ⟨#[58]⟩, .string ⟨#[123]⟩, .string ⟨#[125]⟩, .string ⟨#[40]⟩, .string ⟨#[41]⟩] 9)).drew.cell? ⟨p, 0, none⟩ = some (.pointer (some ⟨T, 0, none⟩)) := (World.cell?_alloc_lt _ _ _ (cell_lt p14)).trans p14
  have ta14 := Lib.hid (ht13.out.below ((below_new W13 (.cells #[.string ⟨#[58]⟩, .string ⟨#[123]⟩, .string ⟨#[125]⟩, .string ⟨#[40]⟩, .string ⟨#[41]⟩] 9)).drew))
  have HM14 := Lib.hid (make14 W13.heap.size (W13.alloc (.cells #[.string ⟨#[58]⟩, .string ⟨#[123]⟩, .string ⟨#[125]⟩, .string ⟨#[40]⟩, .string ⟨#[41]⟩] 9)).drew (heap_alloc_new W13 _))
  go_wp2_with fail
  refine wp_region_ord (S := fun w' => w'.cell? ⟨p, 0, none⟩ = some (.pointer (some ⟨T, 0, none⟩))) [0] [1, 2, 3] (by kernel_rfl) (by kernel_rfl) (fun _ _ _ _ _ h => h) p14 ?_
  simp only [pick, List.filterMap_cons, List.filterMap_nil, List.getElem?_toArray, List.getElem?_cons_zero, List.getElem?_cons_succ]
  repeat (refine wpHead_step (v := ?_) rfl ?_ ?_; rotate_left; (focus (rintro w1 hp'; go_simp; try with_reducible rfl)); simp only [Act.put, List.setIfInBounds_toArray, List.set_cons_zero, List.set_cons_succ])
  refine wpHead_nil ?_
  refine wpTail_step rfl (fun K hK => ?_)
  go_wp2_with fail
  refine hK _ _ q14 ?_
  clear hK K
  try simp only [Act.put, List.setIfInBounds_toArray, List.set_cons_zero, List.set_cons_succ]
  refine wpTail_step rfl (fun K hK => ?_)
  go_wp2_with fail
  refine HM14.out.mono ?_
  rintro e V14 ⟨v14, rfl, hf14, hb14⟩
  have s14 := (ta14.out.below hb14).cell hpl hpT HP.out
  have HA14 := Lib.hid (tab_add rfl hT ta14.out hf14 hb14 gl14_fine.1 gl14_fine.2)
  clear p14 q14 hf14 hb14
  go_wp2_with fail
  refine hK _ _ s14 ?_
  clear hK K
  try simp only [Act.put, List.setIfInBounds_toArray, List.set_cons_zero, List.set_cons_succ]
  refine wpTail_step rfl (fun K hK => ?_)
  go_wp2_with fail
  refine HA14.out.mono ?_
  rintro e W14 ⟨rfl, h14⟩
  have t14 := h14.cell hpl hpT HP.out
  have ht14 : Hid (Tab w w.heap.size T [x, y, z] w.heap.size glTo14 W14) := Lib.hid h14
  clear h14 HA14 HM14 ta14 s14 ht13
  go_wp2_with fail
  refine hK _ _ t14 ?_
  clear hK K
  try simp only [Act.put, List.setIfInBounds_toArray, List.set_cons_zero, List.set_cons_succ]
  refine wpTail_nil ?_
  clear t14
  have p15 := ht14.out.cell hpl hpT HP.out
  have q15 : (W14.alloc (.cells #[.string ⟨#[226, 141, 186]⟩, .string ⟨#[112]⟩, .string ⟨#[226, 141, 181]⟩, .string ⟨#[119]⟩] 9)).drew.cell? ⟨p, 0, none⟩ = some (.pointer (some ⟨T, 0, none⟩)) := (World.cell?_alloc_lt _ _ _ (cell_lt p15)).trans p15
  have ta15 := Lib.hid (ht14.out.below ((below_new W14 (.cells #[.string ⟨#[226, 141, 186]⟩, .string ⟨#[112]⟩, .string ⟨#[226, 141, 181]⟩, .string ⟨#[119]⟩] 9)).drew))
  have HM15 := Lib.hid (make15 W14.heap.size (W14.alloc (.cells #[.string ⟨#[226, 141, 186]⟩, .string ⟨#[112]⟩, .string ⟨#[226, 141, 181]⟩, .string ⟨#[119]⟩] 9)).drew (heap_alloc_new W14 _))
  go_wp2_with fail
  refine wp_region_ord (S := fun w' => w'.cell? ⟨p, 0, none⟩ = some (.pointer (some ⟨T, 0, none⟩))) [0] [1, 2, 3] (by kernel_rfl) (by kernel_rfl) (fun _ _ _ _ _ h => h) p15 ?_
  simp only [pick, List.filterMap_cons, List.filterMap_nil, List.getElem?_toArray, List.getElem?_cons_zero, List.getElem?_cons_succ]
  repeat (refine wpHead_step (v := ?_) rfl ?_ ?_; rotate_left; (focus (rintro w1 hp'; go_simp; try with_reducible rfl)); simp only [Act.put, List.setIfInBounds_toArray, List.set_cons_zero, List.set_cons_succ])
  refine wpHead_nil ?_
  refine wpTail_step rfl (fun K hK => ?_)
  go_wp2_with fail
  refine hK _ _ q15 ?_
  clear hK K
  try simp only [Act.put, List.setIfInBounds_toArray, List.set_cons_zero, List.set_cons_succ]
  refine wpTail_step rfl (fun K hK => ?_)
  go_wp2_with fail
  refine HM15.out.mono ?_
  rintro e V15 ⟨v15, rfl, hf15, hb15⟩
  have s15 := (ta15.out.below hb15).cell hpl hpT HP.out
  have HA15 := Lib.hid (tab_add rfl hT ta15.out hf15 hb15 gl15_fine.1 gl15_fine.2)
  clear p15 q15 hf15 hb15
  go_wp2_with fail
  refine hK _ _ s15 ?_
  clear hK K
  try simp only [Act.put, List.setIfInBounds_toArray, List.set_cons_zero, List.set_cons_succ]
  refine wpTail_step rfl (fun K hK => ?_)
  go_wp2_with fail
  refine HA15.out.mono ?_
  rintro e W15 ⟨rfl, h15⟩
  have t15 := h15.cell hpl hpT HP.out
  have ht15 : Hid (Tab w w.heap.size T [x, y, z] w.heap.size glTo15 W15) := Lib.hid h15
  clear h15 HA15 HM15 ta15 s15 ht14
  go_wp2_with fail
  refine hK _ _ t15 ?_
  clear hK K
  try simp only [Act.put, List.setIfInBounds_toArray, List.set_cons_zero, List.set_cons_succ]
  refine wpTail_nil ?_
  clear t15
  have p16 := ht15.out.cell hpl hpT HP.out
  have q16 : (W15.alloc (.cells #[.string ⟨#[194, 175]⟩, .string ⟨#[104]⟩] 9)).drew.cell? ⟨p, 0, none⟩ = some (.pointer (some ⟨T, 0, none⟩)) := (World.cell?_alloc_lt _ _ _ (cell_lt p16)).trans p16
  have ta16 := Lib.hid (ht15.out.below ((below_new W15 (.cells #[.string ⟨#[194, 175]⟩, .string ⟨#[104]⟩] 9)).drew))
  have HM16 := Lib.hid (make16 W15.heap.size (W15.alloc (.cells #[.string ⟨#[194, 175]⟩, .string ⟨#[104]⟩] 9)).drew (heap_alloc_new W15 _))
  go_wp2_with fail
  refine wp_region_ord (S := fun w' => w'.cell? ⟨p, 0, none⟩ = some (.pointer (some ⟨T, 0, none⟩))) [0] [1, 2, 3] (by kernel_rfl) (by kernel_rfl) (fun _ _ _ _ _ h => h) p16 ?_
  simp only [pick, List.filterMap_cons, List.filterMap_nil, List.getElem?_toArray, List.getElem?_cons_zero, List.getElem?_cons_succ]
  repeat (refine wpHead_step (v := ?_) rfl ?_ ?_; rotate_left; (focus (rintro w1 hp'; go_simp; try with_reducible rfl)); simp only [Act.put, List.setIfInBounds_toArray, List.set_cons_zero, List.set_cons_succ])
  refine wpHead_nil ?_
  refine wpTail_step rfl (fun K hK => ?_)
  go_wp2_with fail
  refine hK _ _ q16 ?_
  clear hK K
  try simp only [Act.put, List.setIfInBounds_toArray, List.set_cons_zero, List.set_cons_succ]
  refine wpTail_step rfl (fun K hK => ?_)
  go_wp2_with fail
  refine HM16.out.mono ?_
  rintro e V16 ⟨v16, rfl, hf16, hb16⟩
  have s16 := (ta16.out.below hb16).cell hpl hpT HP.out
  have HA16 := Lib.hid (tab_add rfl hT ta16.out hf16 hb16 gl16_fine.1 gl16_fine.2)
  clear p16 q16 hf16 hb16
  go_wp2_with fail
  refine hK _ _ s16 ?_
  clear hK K
  try simp only [Act.put, List.setIfInBounds_toArray, List.set_cons_zero, List.set_cons_succ]
  refine wpTail_step rfl (fun K hK => ?_)
  go_wp2_with fail
  refine HA16.out.mono ?_
  rintro e W16 ⟨rfl, h16⟩
  have t16 := h16.cell hpl hpT HP.out
  have ht16 : Hid (Tab w w.heap.size T [x, y, z] w.heap.size glTo16 W16) := Lib.hid h16
  clear h16 HA16 HM16 ta16 s16 ht15
  go_wp2_with fail
  refine hK _ _ t16 ?_
  clear hK K
  try simp only [Act.put, List.setIfInBounds_toArray, List.set_cons_zero, List.set_cons_succ]
  refine wpTail_nil ?_
  clear t16
  have p17 := ht16.out.cell hpl hpT HP.out
  have q17 : (W16.alloc (.cells #[.string ⟨#[226, 141, 157]⟩, .string ⟨#[98]⟩] 9)).drew.cell? ⟨p, 0, none⟩ = some (.pointer (some ⟨T, 0, none⟩)) := (World.cell?_alloc_lt _ _ _ (cell_lt p17)).trans p17
  have ta17 := Lib.hid (ht16.out.below ((below_new W16 (.cells #[.string ⟨#[226, 141, 157]⟩, .string ⟨#[98]⟩] 9)).drew))
  have HM17 := Lib.hid (make17 W16.heap.size (W16.alloc (.cells #[.string ⟨#[226, 141, 157]⟩, .string ⟨#[98]⟩] 9)).drew (heap_alloc_new W16 _))
  go_wp2_with fail
  refine wp_region_ord (S := fun w' => w'.cell? ⟨p, 0, none⟩ = some (.pointer (some ⟨T, 0, none⟩))) [0] [1, 2, 3] (by kernel_rfl) (by kernel_rfl) (fun _ _ _ _ _ h => h) p17 ?_
  simp only [pick, List.filterMap_cons, List.filterMap_nil, List.getElem?_toArray, List.getElem?_cons_zero, List.getElem?_cons_succ]
  repeat (refine wpHead_step (v := ?_) rfl ?_ ?_; rotate_left; (focus (rintro w1 hp'; go_simp; try with_reducible rfl)); simp only [Act.put, List.setIfInBounds_toArray, List.set_cons_zero, List.set_cons_succ])
  refine wpHead_nil ?_
  refine wpTail_step rfl (fun K hK => ?_)
  go_wp2_with fail
  refine hK _ _ q17 ?_
  clear hK K
  try simp only [Act.put, List.setIfInBounds_toArray, List.set_cons_zero, List.set_cons_succ]
  refine wpTail_step rfl (fun K hK => ?_)
  go_wp2_with fail
  refine HM17.out.mono ?_
  rintro e V17 ⟨v17, rfl, hf17, hb17⟩
  have s17 := (ta17.out.below hb17).cell hpl hpT HP.out
  have HA17 := Lib.hid (tab_add rfl hT ta17.out hf17 hb17 gl17_fine.1 gl17_fine.2)
  clear p17 q17 hf17 hb17
  go_wp2_with fail
  refine hK _ _ s17 ?_
  clear hK K
  try simp only [Act.put, List.setIfInBounds_toArray, List.set_cons_zero, List.set_cons_succ]
  refine wpTail_step rfl (fun K hK => ?_)
  go_wp2_with fail
  refine HA17.out.mono ?_
  rintro e W17 ⟨rfl, h17⟩
  have t17 := h17.cell hpl hpT HP.out
  have ht17 : Hid (Tab w w.heap.size T [x, y, z] w.heap.size glTo17 W17) := Lib.hid h17
  clear h17 HA17 HM17 ta17 s17 ht16
  go_wp2_with fail
  refine hK _ _ t17 ?_
  clear hK K
  try simp only [Act.put, List.setIfInBounds_toArray, List.set_cons_zero, List.set_cons_succ]
  refine wpTail_nil ?_
  clear t17
  go_wp2_with fail
  go_end0
  exact ⟨rfl, by rw [← glTo_all]; exact ht17.out⟩
end Go.Proofs.YtflpihedhccdfaaGreatDoor
