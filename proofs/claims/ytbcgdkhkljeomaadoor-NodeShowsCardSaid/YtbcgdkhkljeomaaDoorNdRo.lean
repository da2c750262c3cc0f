/-
  The last node of a tree at work.
-/
import Derived.Test.YtbcgdkhkljeomaaDoorProg
import Derived.Test.YtbcgdkhkljeomaaDoorReg
import Derived.WalkKit
import Derived.WalkSpells
import Derived.WalkLawsBesides
import Derived.Lib.Hide
import Derived.Lib.MinMax
import Derived.Deep.QuietTactic
import Derived.BigQuiet
import Derived.OwnWalk
import Derived.Deep.AppendLies
import Derived.KernelRfl
import Derived.Deep.QuietTactic
import Derived.BigQuiet
import Derived.Test.YtbcgdkhkljeomaaDoorNdK
set_option linter.unusedSimpArgs false
set_option linter.unusedVariables false
namespace Go.Proofs.YtbcgdkhkljeomaaDoor
open Go.RowKit

set_option maxRecDepth 100000 in
set_option maxHeartbeats 4000000 in
theorem root_any (t : List Nd) (A : Option Addr) (c T : Nat) (x : Nd) (w : World) (hT : TreeAt w T A t.length c) (hH : HoldsN w A t) (hx : t[t.length - 1]? = some x) (h1 : 1 ≤ t.length) (h2 : t.length ≤ 1000000) :
    Calls Tryd.prog 31 #[.pointer (some ⟨T, 0, none⟩)] w fun e w' => ∃ B c, e = .returned (x.value B c) ∧ HoldsI w B x.kids ∧ Below w.heap.size w w' := by
  obtain ⟨b, off, rfl, c0, c1, B, c2, c3, hK, hc⟩ := hH _ x hx
  have t0 : w.cell? ⟨T, 0, none⟩ = some (.slice (some ⟨b, off, none⟩) t.length c) := by unfold TreeAt at hT; simp [World.cell?, hT]
  have hTl : T < w.heap.size := cell_lt t0
  have hbl : b < w.heap.size := cell_lt c0
  have hw4 : IntKind.i64.wrap ((t.length : Int) - 1) = (t.length : Int) - 1 := IntWalk.i64_in _ (by omega)
  have hw5 : ((t.length : Int) - 1).toNat = t.length - 1 := by omega
  have hw6 : (0 : Int) ≤ (t.length : Int) - 1 := by omega
  have hw7 : (t.length : Int) - 1 < (t.length : Int) := by omega
  have HK := Lib.hid hK
  unfold Nd.value
  clear hH hT hK hx
  go_enter Tryd.func31, Tryd.ntmps31
  go_wp2_with fail
  go_region
  go_wp2_with fail
  have hr := heap_alloc_new w (.cells #[.int .i64 x.kind, .string x.text, .slice B x.kids.length c2] 37)
  have e0 : (w.alloc (.cells #[.int .i64 x.kind, .string x.text, .slice B x.kids.length c2] 37)).drew.cell? ⟨w.heap.size, 0, none⟩ = some (.int .i64 x.kind) := by simp
  have e1 : (w.alloc (.cells #[.int .i64 x.kind, .string x.text, .slice B x.kids.length c2] 37)).drew.cell? ⟨w.heap.size, 1, none⟩ = some (.string x.text) := by simp
  have e2 : (w.alloc (.cells #[.int .i64 x.kind, .string x.text, .slice B x.kids.length c2] 37)).drew.cell? ⟨w.heap.size, 2, none⟩ = some (.slice B x.kids.length c2) := by simp
  have hbx : Below w.heap.size w (w.alloc (.cells #[.int .i64 x.kind, .string x.text, .slice B x.kids.length c2] 37)).drew := ((Below.refl _ _).alloc (Nat.le_refl _) _).drew
  generalize (w.alloc (.cells #[.int .i64 x.kind, .string x.text, .slice B x.kids.length c2] 37)).drew = W at *
  refine ⟨rfl, .agg #[.int .i64 x.kind, .string x.text, .slice B x.kids.length c2], ?_, B, c2, rfl, HK.out, hbx⟩
  have hre : Tryd.f31.results = #[.cell 2 37] := rfl
  simp only [results, hre]
  go_simp
end Go.Proofs.YtbcgdkhkljeomaaDoor
