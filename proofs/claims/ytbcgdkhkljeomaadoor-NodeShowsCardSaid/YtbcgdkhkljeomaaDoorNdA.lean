/-
  The map of the forms of kinds; whether a node's is right.
-/
import Derived.Test.YtbcgdkhkljeomaaDoorProg
import Derived.Test.YtbcgdkhkljeomaaDoorReg
import Derived.WalkKit
import Derived.WalkSpells
import Derived.WalkLawsBesides
import Derived.Lib.Hide
import Derived.Lib.MinMax
import Derived.Deep.QuietTactic
import Derived.BigQuiet
import Derived.OwnWalk
import Derived.Deep.AppendLies
import Derived.KernelRfl
import Derived.Test.YtbcgdkhkljeomaaDoorNdP
import Derived.Test.YtbcgdkhkljeomaaDoorMapI
set_option linter.unusedSimpArgs false
set_option linter.unusedVariables false
namespace Go.Proofs.YtbcgdkhkljeomaaDoor
open Go.RowKit

def formV (f : Nat × Nat × Bool) : Value := .agg #[.int .i64 f.1, .int .i64 f.2.1, .bool f.2.2]

set_option maxRecDepth 100000 in
set_option maxHeartbeats 8000000 in
theorem forms_any (w : World) :
    Calls Tryd.prog 51 #[] w fun r w' => r = .returned (.map (some (w.heap.size + 2))) ∧ MapIsI w' Tryd.prog 3 (w.heap.size + 2) 14 (fun k => (formAt k).map formV) ∧ Below w.heap.size w w' := by
  have hmm := @run_makeMap Tryd.prog
  have hk := Tryd.underlying3
  have ht := Tryd.underlying72
  obtain ⟨u, hu⟩ : ∃ u : World, u = (w.alloc (.cells #[.int .i64 0, .int .i64 0, .bool true] 71)).alloc (.cells #[.int .i64 1, .int .i64 1, .bool true] 71) := ⟨_, rfl⟩
  have hus : u.heap.size = w.heap.size + 2 := by rw [hu]; simp
  have hub : Below w.heap.size w u := by rw [hu]; exact ((Below.refl _ _).alloc (Nat.le_refl _) _).alloc (by simp) _
  have hm0 := MapIsI.made u Tryd.prog 3
  rw [hus] at hm0
  have hb0 : Below w.heap.size w (u.alloc (.map #[] 0)) := hub.alloc hub.size _
  have a0 : (u.alloc (.map #[] 0)).heap[w.heap.size]? = some (.cells #[.int .i64 0, .int .i64 0, .bool true] 71 (0, 0)) := by
    have h1 := heap_alloc_new w (.cells #[.int .i64 0, .int .i64 0, .bool true] 71)
    rw [hu]
    exact ((World.grownBy_alloc _ _ none).block _ (by simp; omega) (by simp)).trans (((World.grownBy_alloc _ _ none).block _ (by simp) (by simp)).trans h1)
  have b0 : (u.alloc (.map #[] 0)).heap[w.heap.size + 1]? = some (.cells #[.int .i64 1, .int .i64 1, .bool true] 71 (0, 0)) := by
    have h1 := heap_alloc_new (w.alloc (.cells #[.int .i64 0, .int .i64 0, .bool true] 71)) (.cells #[.int .i64 1, .int .i64 1, .bool true] 71)
    rw [World.size_alloc] at h1
    rw [hu]
    exact ((World.grownBy_alloc _ _ none).block _ (by simp) (by simp)).trans h1
  have st : ∀ {p q : World}, Below w.heap.size w p → p.grownBy q (some (w.heap.size + 2)) → Below w.heap.size w q := fun hp hg => hp.grown hg hp.size (fun k hk => by cases hk; omega)
  have sa : ∀ {p q : World} {o : Obj}, p.heap[w.heap.size]? = some o → p.grownBy q (some (w.heap.size + 2)) → q.heap[w.heap.size]? = some o := fun hp hg => (hg.block _ (Array.getElem?_eq_some_iff.1 hp).1 (by simp)).trans hp
  have sb : ∀ {p q : World} {o : Obj}, p.heap[w.heap.size + 1]? = some o → p.grownBy q (some (w.heap.size + 2)) → q.heap[w.heap.size + 1]? = some o := fun hp hg => (hg.block _ (Array.getElem?_eq_some_iff.1 hp).1 (by simp)).trans hp
  obtain ⟨w1, r1, m1, g1⟩ := hm0.put hk ht (by unfold maxLen; omega) 1 (by decide) (.agg #[.int .i64 0, .int .i64 0, .bool true])
  have x0 : (u.alloc (.map #[] 0)).cell? ⟨w.heap.size, 0, none⟩ = some (.int .i64 0) := by simp [World.cell?, a0]
  have y0 : (u.alloc (.map #[] 0)).cell? ⟨w.heap.size, 1, none⟩ = some (.int .i64 0) := by simp [World.cell?, a0]
  have z0 : (u.alloc (.map #[] 0)).cell? ⟨w.heap.size, 2, none⟩ = some (.bool true) := by simp [World.cell?, a0]
  have a1 := sa a0 g1
  have b1 := sb b0 g1
  have hb1 := st hb0 g1
  clear a0 b0 hb0 g1
  clear hm0
  obtain ⟨w2, r2, m2, g2⟩ := m1.put hk ht (by unfold maxLen; omega) 2 (by decide) (.agg #[.int .i64 0, .int .i64 0, .bool true])
  have x1 : w1.cell? ⟨w.heap.size, 0, none⟩ = some (.int .i64 0) := by simp [World.cell?, a1]
  have y1 : w1.cell? ⟨w.heap.size, 1, none⟩ = some (.int .i64 0) := by simp [World.cell?, a1]
  have z1 : w1.cell? ⟨w.heap.size, 2, none⟩ = some (.bool true) := by simp [World.cell?, a1]
  have a2 := sa a1 g2
  have b2 := sb b1 g2
  have hb2 := st hb1 g2
  clear a1 b1 hb1 g2
  clear m1
  obtain ⟨w3, r3, m3, g3⟩ := m2.put hk ht (by unfold maxLen; omega) 3 (by decide) (.agg #[.int .i64 0, .int .i64 0, .bool true])
  have x2 : w2.cell? ⟨w.heap.size, 0, none⟩ = some (.int .i64 0) := by simp [World.cell?, a2]
  have y2 : w2.cell? ⟨w.heap.size, 1, none⟩ = some (.int .i64 0) := by simp [World.cell?, a2]
  have z2 : w2.cell? ⟨w.heap.size, 2, none⟩ = some (.bool true) := by simp [World.cell?, a2]
  have a3 := sa a2 g3
  have b3 := sb b2 g3
  have hb3 := st hb2 g3
  clear a2 b2 hb2 g3
  clear m2
  obtain ⟨w4, r4, m4, g4⟩ := m3.put hk ht (by unfold maxLen; omega) 4 (by decide) (.agg #[.int .i64 0, .int .i64 0, .bool true])
  have x3 : w3.cell? ⟨w.heap.size, 0, none⟩ = some (.int .i64 0) := by simp [World.cell?, a3]
  have y3 : w3.cell? ⟨w.heap.size, 1, none⟩ = some (.int .i64 0) := by simp [World.cell?, a3]
  have z3 : w3.cell? ⟨w.heap.size, 2, none⟩ = some (.bool true) := by simp [World.cell?, a3]
  have a4 := sa a3 g4
  have b4 := sb b3 g4
  have hb4 := st hb3 g4
  clear a3 b3 hb3 g4
  clear m3
  obtain ⟨w5, r5, m5, g5⟩ := m4.put hk ht (by unfold maxLen; omega) 9 (by decide) (.agg #[.int .i64 0, .int .i64 0, .bool true])
  have x4 : w4.cell? ⟨w.heap.size, 0, none⟩ = some (.int .i64 0) := by simp [World.cell?, a4]
  have y4 : w4.cell? ⟨w.heap.size, 1, none⟩ = some (.int .i64 0) := by simp [World.cell?, a4]
  have z4 : w4.cell? ⟨w.heap.size, 2, none⟩ = some (.bool true) := by simp [World.cell?, a4]
  have a5 := sa a4 g5
  have b5 := sb b4 g5
  have hb5 := st hb4 g5
  clear a4 b4 hb4 g5
  clear m4
  obtain ⟨w6, r6, m6, g6⟩ := m5.put hk ht (by unfold maxLen; omega) 14 (by decide) (.agg #[.int .i64 0, .int .i64 0, .bool true])
  have x5 : w5.cell? ⟨w.heap.size, 0, none⟩ = some (.int .i64 0) := by simp [World.cell?, a5]
  have y5 : w5.cell? ⟨w.heap.size, 1, none⟩ = some (.int .i64 0) := by simp [World.cell?, a5]
  have z5 : w5.cell? ⟨w.heap.size, 2, none⟩ = some (.bool true) := by simp [World.cell?, a5]
  have a6 := sa a5 g6
  have b6 := sb b5 g6
  have hb6 := st hb5 g6
  clear a5 b5 hb5 g6
  clear m5
  obtain ⟨w7, r7, m7, g7⟩ := m6.put hk ht (by unfold maxLen; omega) 13 (by decide) (.agg #[.int .i64 0, .int .i64 0, .bool true])
  have x6 : w6.cell? ⟨w.heap.size, 0, none⟩ = some (.int .i64 0) := by simp [World.cell?, a6]
  have y6 : w6.cell? ⟨w.heap.size, 1, none⟩ = some (.int .i64 0) := by simp [World.cell?, a6]
  have z6 : w6.cell? ⟨w.heap.size, 2, none⟩ = some (.bool true) := by simp [World.cell?, a6]
  have a7 := sa a6 g7
  have b7 := sb b6 g7
  have hb7 := st hb6 g7
  clear a6 b6 hb6 g7
  clear m6
  obtain ⟨w8, r8, m8, g8⟩ := m7.put hk ht (by unfold maxLen; omega) 5 (by decide) (.agg #[.int .i64 1, .int .i64 1, .bool false])
  have a8 := sa a7 g8
  have b8 := sb b7 g8
  have hb8 := st hb7 g8
  clear a7 b7 hb7 g8
  clear m7
  obtain ⟨w9, r9, m9, g9⟩ := m8.put hk ht (by unfold maxLen; omega) 8 (by decide) (.agg #[.int .i64 1, .int .i64 1, .bool true])
  have x8 : w8.cell? ⟨w.heap.size + 1, 0, none⟩ = some (.int .i64 1) := by simp [World.cell?, b8]
  have y8 : w8.cell? ⟨w.heap.size + 1, 1, none⟩ = some (.int .i64 1) := by simp [World.cell?, b8]
  have z8 : w8.cell? ⟨w.heap.size + 1, 2, none⟩ = some (.bool true) := by simp [World.cell?, b8]
  have a9 := sa a8 g9
  have b9 := sb b8 g9
  have hb9 := st hb8 g9
  clear a8 b8 hb8 g9
  clear m8
  obtain ⟨w10, r10, m10, g10⟩ := m9.put hk ht (by unfold maxLen; omega) 10 (by decide) (.agg #[.int .i64 1, .int .i64 1, .bool true])
  have x9 : w9.cell? ⟨w.heap.size + 1, 0, none⟩ = some (.int .i64 1) := by simp [World.cell?, b9]
  have y9 : w9.cell? ⟨w.heap.size + 1, 1, none⟩ = some (.int .i64 1) := by simp [World.cell?, b9]
  have z9 : w9.cell? ⟨w.heap.size + 1, 2, none⟩ = some (.bool true) := by simp [World.cell?, b9]
  have a10 := sa a9 g10
  have b10 := sb b9 g10
  have hb10 := st hb9 g10
  clear a9 b9 hb9 g10
  clear m9
  obtain ⟨w11, r11, m11, g11⟩ := m10.put hk ht (by unfold maxLen; omega) 6 (by decide) (.agg #[.int .i64 2, .int .i64 2, .bool false])
  have a11 := sa a10 g11
  have b11 := sb b10 g11
  have hb11 := st hb10 g11
  clear a10 b10 hb10 g11
  clear m10
  obtain ⟨w12, r12, m12, g12⟩ := m11.put hk ht (by unfold maxLen; omega) 12 (by decide) (.agg #[.int .i64 2, .int .i64 2, .bool false])
  have a12 := sa a11 g12
  have b12 := sb b11 g12
  have hb12 := st hb11 g12
  clear a11 b11 hb11 g12
  clear m11
  obtain ⟨w13, r13, m13, g13⟩ := m12.put hk ht (by unfold maxLen; omega) 7 (by decide) (.agg #[.int .i64 3, .int .i64 3, .bool false])
  have a13 := sa a12 g13
  have b13 := sb b12 g13
  have hb13 := st hb12 g13
  clear a12 b12 hb12 g13
  clear m12
  obtain ⟨w14, r14, m14, g14⟩ := m13.put hk ht (by unfold maxLen; omega) 11 (by decide) (.agg #[.int .i64 1, .int .i64 1048576, .bool false])
  have a14 := sa a13 g14
  have b14 := sb b13 g14
  have hb14 := st hb13 g14
  clear a13 b13 hb13 g14
  clear m13
  have HM : Hid (MapIsI w14 Tryd.prog 3 (w.heap.size + 2) 14 (fun k => (formAt k).map formV)) := Lib.hid (by
    have e : (fun k => (formAt k).map formV) = _ := funext fun k => by simp only [formAt, apply_ite (Option.map formV), Option.map_some, Option.map_none, formV]; rfl
    rw [e]
    exact m14)
  have HB := Lib.hid hb14
  clear m14 a14 b14 hb14 st sa sb hub
  subst hu
  go_enter Tryd.func51, Tryd.ntmps51
  go_wp2_with fail
  go_ret
  exact ⟨rfl, HM.out, HB.out⟩
end Go.Proofs.YtbcgdkhkljeomaaDoor
