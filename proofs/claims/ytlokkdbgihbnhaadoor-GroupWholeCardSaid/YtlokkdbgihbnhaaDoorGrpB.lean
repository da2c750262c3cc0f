/-
  What opens, what closes, by the program and by the document.
-/
import Derived.Test.YtlokkdbgihbnhaaDoorProg
import Derived.Test.YtlokkdbgihbnhaaDoorReg
import Derived.WalkKit
import Derived.WalkSpells
import Derived.WalkLawsBesides
import Derived.Lib.Hide
import Derived.Lib.MinMax
import Derived.Deep.QuietTactic
import Derived.BigQuiet
import Derived.OwnWalk
import Derived.Deep.AppendLies
import Derived.KernelRfl
import Derived.Test.YtlokkdbgihbnhaaDoorGrpA
set_option linter.unusedSimpArgs false
set_option linter.unusedVariables false
namespace Go.Proofs.YtlokkdbgihbnhaaDoor
open Go.RowKit

def Tok.opn (x : Tok) : Bool := x.isSign gPar || x.isSign gCur
def Tok.cls (x : Tok) : Bool := x.isSign gPas || x.isSign gCus
def pair2 (x y : Tok) : Bool := (x.isSign gPar && y.isSign gPas) || (x.isSign gCur && y.isSign gCus)
/-- What closes it; whether it opens. -/
def Tok.closer (x : Tok) : ByteArray := if x.glyph = gCur then gCus else if x.glyph = gPar then gPas else noTxt
  where noTxt : ByteArray := ByteArray.empty

theorem boxed3 {w w' : World} {k : Int} {t h : ByteArray} {T : TypeId} (hb : Below (w.heap.size + 1) (w.alloc (.cells #[.int .i64 k, .string t, .string h] T)) w') :
    w'.cell? ⟨w.heap.size, 0, none⟩ = some (.int .i64 k) ∧ w'.cell? ⟨w.heap.size, 1, none⟩ = some (.string t) ∧ w'.cell? ⟨w.heap.size, 2, none⟩ = some (.string h) ∧ Below w.heap.size w w' :=
  ⟨(hb.cell (p := ⟨w.heap.size, 0, none⟩) (by simp)).trans (by simp), (hb.cell (p := ⟨w.heap.size, 1, none⟩) (by simp)).trans (by simp), (hb.cell (p := ⟨w.heap.size, 2, none⟩) (by simp)).trans (by simp),
    ((Below.refl _ _).alloc (Nat.le_refl _) _).trans (hb.mono (by omega))⟩

set_option maxRecDepth 100000 in
set_option maxHeartbeats 1000000 in
theorem ropens_any (x : Tok) (w : World) :
    Calls Tryd.prog 28 #[x.val] w fun r w' => r = .returned (.bool x.opn) ∧ Below w.heap.size w w' := by
  have H1 := Lib.hid (fun u => rIsSign_any x gPar u)
  have H2 := Lib.hid (fun u => rIsSign_any x gCur u)
  unfold Tok.opn
  obtain ⟨k, t, h⟩ := x
  generalize (Tok.mk k t h).isSign gPar = p at *
  generalize (Tok.mk k t h).isSign gCur = q at *
  unfold Tok.val at *
  simp only at *
  go_enter Tryd.func28, Tryd.ntmps28
  go_wp2_with fail
  refine (H1.out _).mono ?_
  rintro r w1 ⟨rfl, hb⟩
  rw [World.size_alloc] at hb
  obtain ⟨c1, c2, c3, b1⟩ := boxed3 hb
  have B1 := Lib.hid b1
  have lt1 : w.heap.size < w1.heap.size := cell_lt c1
  clear hb b1
  cases p with
  | true =>
    go_wp2_with fail
    all_goals go_ret
    all_goals exact ⟨rfl, B1.out⟩
  | false =>
    go_wp2_with fail
    refine (H2.out _).mono ?_
    rintro r w2 ⟨rfl, hb⟩
    have B2 := Lib.hid (B1.out.trans (hb.mono B1.out.size))
    clear hb
    cases q
    all_goals
      go_wp2_with fail
      all_goals go_ret
      all_goals exact ⟨rfl, B2.out⟩

set_option maxRecDepth 100000 in
set_option maxHeartbeats 1000000 in
theorem rcloses_any (x : Tok) (w : World) :
    Calls Tryd.prog 29 #[x.val] w fun r w' => r = .returned (.bool x.cls) ∧ Below w.heap.size w w' := by
  have H1 := Lib.hid (fun u => rIsSign_any x gPas u)
  have H2 := Lib.hid (fun u => rIsSign_any x gCus u)
  unfold Tok.cls
  obtain ⟨k, t, h⟩ := x
  generalize (Tok.mk k t h).isSign gPas = p at *
  generalize (Tok.mk k t h).isSign gCus = q at *
  unfold Tok.val at *
  simp only at *
  go_enter Tryd.func29, Tryd.ntmps29
  go_wp2_with fail
  refine (H1.out _).mono ?_
  rintro r w1 ⟨rfl, hb⟩
  rw [World.size_alloc] at hb
  obtain ⟨c1, c2, c3, b1⟩ := boxed3 hb
  have B1 := Lib.hid b1
  have lt1 : w.heap.size < w1.heap.size := cell_lt c1
  clear hb b1
  cases p with
  | true =>
    go_wp2_with fail
    all_goals go_ret
    all_goals exact ⟨rfl, B1.out⟩
  | false =>
    go_wp2_with fail
    refine (H2.out _).mono ?_
    rintro r w2 ⟨rfl, hb⟩
    have B2 := Lib.hid (B1.out.trans (hb.mono B1.out.size))
    clear hb
    cases q
    all_goals
      go_wp2_with fail
      all_goals go_ret
      all_goals exact ⟨rfl, B2.out⟩

end Go.Proofs.YtlokkdbgihbnhaaDoor
