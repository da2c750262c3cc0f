/-
  The calls of the laws of layer 4, opened; what the statements show.
-/
import Derived.Test.YteojnejomgomjaaDoorProg
import Derived.Test.YteojnejomgomjaaDoorReg
import Derived.WalkKit
import Derived.WalkSpells
import Derived.WalkLawsBesides
import Derived.Lib.Hide
import Derived.Lib.MinMax
import Derived.Deep.QuietTactic
import Derived.BigQuiet
import Derived.OwnWalk
import Derived.Deep.AppendLies
import Derived.KernelRfl
import Derived.Test.YteojnejomgomjaaDoorLxSm
import Derived.Test.YteojnejomgomjaaDoorLxPr
import Derived.Test.YteojnejomgomjaaDoorLxWt
set_option linter.unusedSimpArgs false
set_option linter.unusedVariables false
namespace Go.Proofs.YteojnejomgomjaaDoor
open Go.RowKit Go.Maps

/-- A slice that holds these tokens. -/
def GivesT (l : List Tok) (e : Ending) (w w' : World) : Prop := ∃ A c, e = .returned (.slice A l.length c) ∧ HoldsT w' A l ∧ l.length ≤ c ∧ Below w.heap.size w w'
theorem gives_of {l : List Tok} {base : Nat} {w w' : World} {v : Value} (h : w'.ownsRow base tK 3 v l.length (tokCells l)) (hb : Below w.heap.size w w') : GivesT l (.returned v) w w' := by
  obtain ⟨A, c, rfl, _, h1, h2⟩ := holdsT_of_own h
  exact ⟨A, c, rfl, h1, h2, hb⟩
theorem LineC (s : ByteArray) (w : World) (hs : s.size ≤ 1000000) (hT : Tabs w) : Calls Tryd.prog 10 #[.string s] w fun e w' => GivesT (dLine s) e w w' :=
  (Line_any s w hs hT).mono fun e w' ⟨v, he, ho, hb⟩ => by subst he; exact gives_of ho hb
theorem PlainC (l : List Tok) (A : Option Addr) (c : Nat) (w : World) (hl : l.length ≤ 100000) (hA : HoldsT w A l) : Calls Tryd.prog 16 #[.slice A l.length c] w fun e w' => GivesT (plainT l) e w w' :=
  (Plain_any l A c w hl hA).mono fun e w' ⟨v, he, ho, hb⟩ => by subst he; exact gives_of ho hb
theorem refPlainC (l : List Tok) (A : Option Addr) (c : Nat) (w : World) (hl : l.length ≤ 100000) (hA : HoldsT w A l) : Calls Tryd.prog 20 #[.slice A l.length c] w fun e w' => GivesT (plainT l) e w w' :=
  (refPlain_any l A c w hl hA).mono fun e w' ⟨v, he, ho, hb⟩ => by subst he; exact gives_of ho hb

def aOne : ByteArray := ⟨#[97, 49]⟩
theorem aOne_name : isNameT aOne = true := by decide +kernel
theorem shown_plain : (plainT shownL).length = 3 := by decide +kernel

set_option maxRecDepth 100000 in
set_option maxHeartbeats 8000000 in
theorem shown_any (w : World) (hT : Tabs w) : Calls Tryd.prog 9 #[] w fun e w' => e = .returned (.bool true) ∧ Below w.heap.size w w' := by
  have hL := LineC shownText w (by decide) hT
  rw [shown_line] at hL
  have HL := Lib.hid hL
  have HT := Lib.hid hT
  clear hL hT
  unfold shownText at HL
  go_enter Tryd.func9, Tryd.ntmps9
  go_wp2_with fail
  refine HL.out.mono ?_
  rintro e w1 ⟨A, c, rfl, hH, hc, hb1⟩
  have hT1 := HT.out.below hb1
  have HN := IsName_any aOne w1 (by decide) hT1
  rw [aOne_name] at HN
  unfold aOne at HN
  have HN := Lib.hid HN
  have HP := Lib.hid (fun W (h : HoldsT W A shownL) => PlainC shownL A c W (by decide) h)
  obtain ⟨b, off, rfl, a0, a1, a2⟩ := hH 0 _ rfl
  obtain ⟨b', off', e, b0, b1, b2⟩ := hH 1 _ rfl
  cases e
  obtain ⟨b', off', e, c0, c1, c2⟩ := hH 2 _ rfl
  cases e
  obtain ⟨b', off', e, d0, d1, d2⟩ := hH 4 _ rfl
  cases e
  have a0' : w1.cell? ⟨b, off, none⟩ = some (.int .i64 5) := a0
  have a1' : w1.cell? ⟨b, off + 1, none⟩ = some (.string ⟨#[97]⟩) := a1
  have a2' : w1.cell? ⟨b, off + 2, none⟩ = some (.string ⟨#[]⟩) := a2
  have b0' : w1.cell? ⟨b, off + 3, none⟩ = some (.int .i64 8) := b0
  have b1' : w1.cell? ⟨b, off + 4, none⟩ = some (.string ⟨#[226, 134, 144]⟩) := b1
  have b2' : w1.cell? ⟨b, off + 5, none⟩ = some (.string ⟨#[226, 134, 144]⟩) := b2
  have c0' : w1.cell? ⟨b, off + 6, none⟩ = some (.int .i64 3) := c0
  have c1' : w1.cell? ⟨b, off + 7, none⟩ = some (.string ⟨#[194, 175, 48, 55]⟩) := c1
  have c2' : w1.cell? ⟨b, off + 8, none⟩ = some (.string ⟨#[194, 175, 55]⟩) := c2
  have d0' : w1.cell? ⟨b, off + 12, none⟩ = some (.int .i64 2) := d0
  have d1' : w1.cell? ⟨b, off + 13, none⟩ = some (.string ⟨#[226, 141, 157, 32, 120]⟩) := d1
  have d2' : w1.cell? ⟨b, off + 14, none⟩ = some (.string ⟨#[226, 141, 157]⟩) := d2
  clear a0 a1 a2 b0 b1 b2 c0 c1 c2 d0 d1 d2
  have HH := Lib.hid hH
  have hlen : shownL.length = 5 := rfl
  rw [hlen] at hc HP ⊢
  have HPL := Lib.hid shown_plain
  clear hH hT1 hlen HL HT
  go_wp2_with fail
  refine HN.out.mono ?_
  rintro e w2 ⟨rfl, hb2⟩
  have HP2 := Lib.hid (HP.out w2 (HH.out.below hb2))
  have hB2 : Below w.heap.size w w2 := hb1.trans (hb2.mono hb1.size)
  clear HN HP HH hb2 a0' a1' a2' b0' b1' b2' c0' c1' c2' d0' d1' d2'
  go_wp2_with fail
  refine HP2.out.mono ?_
  rintro e w3 ⟨A3, c3, rfl, _, _, hb3⟩
  rw [HPL.out]
  have hB3 : Below w.heap.size w w3 := hB2.trans (hb3.mono hB2.size)
  clear HP2 hb3
  go_wp2_with fail
  go_ret
  exact ⟨rfl, hB3⟩

theorem cut_len (s : ByteArray) : (cut300 s).size ≤ 300 := by unfold cut300; rw [ByteArray.size_extract]; omega
/-- 'cut', at whatever text. -/
theorem cutC (s : ByteArray) (w : World) (hs : s.size ≤ maxLen) : Calls Tryd.prog 11 #[.string s] w fun e w' => e = .returned (.string (cut300 s)) ∧ w' = w := cut_any s w hs
end Go.Proofs.YteojnejomgomjaaDoor
