/-
  The glyph that bytes begin with: by the program.
-/
import Derived.Test.YteojnejomgomjaaDoorProg
import Derived.Test.YteojnejomgomjaaDoorReg
import Derived.WalkKit
import Derived.WalkSpells
import Derived.WalkLawsBesides
import Derived.Lib.Hide
import Derived.Lib.MinMax
import Derived.Deep.QuietTactic
import Derived.BigQuiet
import Derived.OwnWalk
import Derived.Deep.AppendLies
import Derived.KernelRfl
import Derived.Test.YteojnejomgomjaaDoorLxRf
set_option linter.unusedSimpArgs false
set_option linter.unusedVariables false
namespace Go.Proofs.YteojnejomgomjaaDoor
open Go.RowKit Go.Maps

theorem gFirst_of {s : ByteArray} {x : Gly} {a : ByteArray} (h : gFirst s = (x.glyph, a.size)) : (gFirst s).1 = x.glyph ∧ (gFirst s).2 = a.size := by rw [h]; exact ⟨rfl, rfl⟩

set_option maxRecDepth 100000 in
set_option maxHeartbeats 4000000 in
/-- The glyph that bytes begin with. -/
theorem gfirst_any (s : ByteArray) (w : World) (hs : s.size ≤ 1000000) :
    Calls Tryd.prog 34 #[.string s] w fun e w' => e = .returned (.tuple #[.string (gFirst s).1, .int .i64 ((gFirst s).2 : Int)]) ∧ Below w.heap.size w w' := by
  have hB1 := below_new w (.cells #[.int .u32 0, .int .i32 0, .int .u32 0, .slice none 0 0, .map none] tT)
  have hX1 := heap_alloc_new w (.cells #[.int .u32 0, .int .i32 0, .int .u32 0, .slice none 0 0, .map none] tT)
  have hz1 : (w.alloc (.cells #[.int .u32 0, .int .i32 0, .int .u32 0, .slice none 0 0, .map none] tT)).heap.size = w.heap.size + 1 := by simp
  obtain ⟨w1, hw1⟩ : ∃ w1, w1 = w.alloc (.cells #[.int .u32 0, .int .i32 0, .int .u32 0, .slice none 0 0, .map none] tT) := ⟨_, rfl⟩
  rw [← hw1] at hB1 hX1 hz1
  have hB2 := below_new w1 (.cells #[.string s, .pointer (some ⟨w.heap.size, 0, none⟩), .pointer none, .slice none 0 0] 91)
  have hX2 := heap_alloc_new w1 (.cells #[.string s, .pointer (some ⟨w.heap.size, 0, none⟩), .pointer none, .slice none 0 0] 91)
  have hz2 : (w1.alloc (.cells #[.string s, .pointer (some ⟨w.heap.size, 0, none⟩), .pointer none, .slice none 0 0] 91)).heap.size = w1.heap.size + 1 := by simp
  rw [hz1] at hX2
  obtain ⟨w2, hw2⟩ : ∃ w2, w2 = w1.alloc (.cells #[.string s, .pointer (some ⟨w.heap.size, 0, none⟩), .pointer none, .slice none 0 0] 91) := ⟨_, rfl⟩
  rw [← hw2] at hB2 hX2 hz2
  have hL : Below w.heap.size w w2 := hB1.trans (hB2.mono (by omega))
  have c0 : w2.cell? ⟨w.heap.size + 1, 0, none⟩ = some (.string s) := by simp [World.cell?, hX2]
  have c1 : w2.cell? ⟨w.heap.size + 1, 1, none⟩ = some (.pointer (some ⟨w.heap.size, 0, none⟩)) := by simp [World.cell?, hX2]
  have hN : NewTab w2 w.heap.size := (hB2.block _ (by omega)).trans hX1
  have HR := Lib.hid (rfirst_any s (w.heap.size + 1) w.heap.size w2 hs c0 c1 hN (by omega))
  rw [hw2, hw1] at HR
  have HL := Lib.hid hL
  rw [hw2, hw1] at HL
  have HZ : Hid (w2.heap.size = w.heap.size + 2) := Lib.hid (by omega)
  rw [hw2, hw1] at HZ
  clear hw1 hw2 hB1 hX1 hz1 hB2 hX2 hz2 hL c0 c1 hN w1 w2
  go_enter Tryd.func34, Tryd.ntmps34
  go_wp2_with fail
  refine HR.out.mono ?_
  rintro e w3 ⟨x, a, rfl, hg, hk⟩
  rw [HZ.out] at hk
  have hb3 : Below w.heap.size w w3 := HL.out.trans ⟨hk.os, hk.tape, hk.output, hk.size, fun k hk1 => hk.block k (by omega) (by omega)⟩
  have HG := Lib.hid (gFirst_of hg)
  clear hg hk HR HZ HL
  go_wp2_with fail
  go_ret2
  refine ⟨by rw [HG.out.1, HG.out.2]; rfl, hb3.alloc hb3.size _⟩
end Go.Proofs.YteojnejomgomjaaDoor
