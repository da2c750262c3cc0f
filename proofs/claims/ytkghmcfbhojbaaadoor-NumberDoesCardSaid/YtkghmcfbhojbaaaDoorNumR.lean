/-
  The map of the functions of one; the functions.
-/
import Derived.Test.YtkghmcfbhojbaaaDoorProg
import Derived.Test.YtkghmcfbhojbaaaDoorReg
import Derived.WalkKit
import Derived.WalkSpells
import Derived.WalkLawsBesides
import Derived.Lib.Hide
import Derived.Lib.MinMax
import Derived.Deep.QuietTactic
import Derived.BigQuiet
import Derived.OwnWalk
import Derived.Deep.AppendLies
import Derived.KernelRfl
import Derived.Test.YtkghmcfbhojbaaaDoorNumQ
set_option linter.unusedSimpArgs false
set_option linter.unusedVariables false
namespace Go.Proofs.YtkghmcfbhojbaaaDoor
open Go.RowKit

def mSame : Value := .func (.func 44) #[] #[]
/-- What the map of the functions of one holds; p: the cell of 'minus'. -/
def look8 (p : Addr) (x : ByteArray) : Option Value :=
  if x = gRes then some (.func (.func 51) #[] #[.pointer (some p)]) else if x = gNot then some (.func (.func 49) #[] #[]) else
  if x = gDiv then some (.func (.func 48) #[] #[]) else if x = gTimes then some (.func (.func 46) #[] #[]) else
  if x = gTake then some (.func (.func 45) #[] #[]) else if x = gLo then some mSame else if x = gHi then some mSame else if x = gAdd then some mSame else none

set_option maxRecDepth 100000 in
set_option maxHeartbeats 4000000 in
theorem monads_any (w : World) :
    Calls Tryd.prog 22 #[] w fun r w' => r = .returned (.map (some (w.heap.size + 1))) ∧
      MapIs w' Tryd.prog 9 (w.heap.size + 1) 8 (look8 ⟨w.heap.size, 0, none⟩) ∧ w'.cell? ⟨w.heap.size, 0, none⟩ = some (.func (.func 45) #[] #[]) ∧ Below w.heap.size w w' := by
  have hmm := @run_makeMap Tryd.prog
  have hmf : ∀ (fn : Fn) (first cap : Array Value) (w : World), (Instr.makeFunc fn first cap).run Tryd.prog w = .ok (.func fn first cap) w := fun _ _ _ _ => rfl
  have hk := Tryd.underlying9
  have ht := Tryd.underlying49
  obtain ⟨w0, hw0⟩ : ∃ w0 : World, w0 = w.alloc (.cells #[.func (.func 45) #[] #[]] 47) := ⟨_, rfl⟩
  have hs : w0.heap.size = w.heap.size + 1 := by rw [hw0]; simp
  have hc0 : w0.cell? ⟨w.heap.size, 0, none⟩ = some (.func (.func 45) #[] #[]) := by rw [hw0]; simp
  have hb0 : Below w.heap.size w w0 := by rw [hw0]; exact (Below.refl _ _).alloc (Nat.le_refl _) _
  obtain ⟨w1, r1, m1, g1⟩ := (MapIs.made w0 Tryd.prog 9).put hk ht (by unfold maxLen; omega) gAdd (by decide) mSame
  obtain ⟨w2, r2, m2, g2⟩ := m1.put hk ht (by unfold maxLen; omega) gHi (by decide) mSame
  obtain ⟨w3, r3, m3, g3⟩ := m2.put hk ht (by unfold maxLen; omega) gLo (by decide) mSame
  obtain ⟨w4, r4, m4, g4⟩ := m3.put hk ht (by unfold maxLen; omega) gTake (by decide) (.func (.func 45) #[] #[])
  obtain ⟨w5, r5, m5, g5⟩ := m4.put hk ht (by unfold maxLen; omega) gTimes (by decide) (.func (.func 46) #[] #[])
  obtain ⟨w6, r6, m6, g6⟩ := m5.put hk ht (by unfold maxLen; omega) gDiv (by decide) (.func (.func 48) #[] #[])
  obtain ⟨w7, r7, m7, g7⟩ := m6.put hk ht (by unfold maxLen; omega) gNot (by decide) (.func (.func 49) #[] #[])
  obtain ⟨w8, r8, m8, g8⟩ := m7.put hk ht (by unfold maxLen; omega) gRes (by decide) (.func (.func 51) #[] #[.pointer (some ⟨w.heap.size, 0, none⟩)])
  have hb8 : Below w.heap.size w w8 := by
    have h0 : Below w.heap.size w (w0.alloc (.map #[] 0)) := hb0.alloc hb0.size _
    have st : ∀ {u v : World}, Below w.heap.size w u → u.grownBy v (some w0.heap.size) → Below w.heap.size w v := fun hu hg => hu.grown hg hu.size (fun k hk => by cases hk; omega)
    exact st (st (st (st (st (st (st (st h0 g1) g2) g3) g4) g5) g6) g7) g8
  have hc3 : w3.cell? ⟨w.heap.size, 0, none⟩ = some (.func (.func 45) #[] #[]) ∧ w8.cell? ⟨w.heap.size, 0, none⟩ = some (.func (.func 45) #[] #[]) := by
    have h0 : (w0.alloc (.map #[] 0)).cell? ⟨w.heap.size, 0, none⟩ = some (.func (.func 45) #[] #[]) := (World.cell?_alloc_lt _ _ _ (by simp; omega)).trans hc0
    have st : ∀ {u v : World}, u.cell? ⟨w.heap.size, 0, none⟩ = some (.func (.func 45) #[] #[]) → u.grownBy v (some w0.heap.size) → v.cell? ⟨w.heap.size, 0, none⟩ = some (.func (.func 45) #[] #[]) := fun hu hg =>
      (hg.cell_far ⟨w.heap.size, 0, none⟩ (cell_lt hu) (by simp; omega)).trans hu
    have h3 := st (st (st h0 g1) g2) g3
    exact ⟨h3, st (st (st (st (st h3 g4) g5) g6) g7) g8⟩
  obtain ⟨hc3, hc8⟩ := hc3
  have hm8 : MapIs w8 Tryd.prog 9 (w.heap.size + 1) 8 (look8 ⟨w.heap.size, 0, none⟩) := by rw [← hs]; exact m8
  clear m1 m2 m3 m4 m5 m6 m7 m8 g1 g2 g3 g4 g5 g6 g7 g8
  unfold gAdd mSame at r1
  unfold gHi mSame at r2
  unfold gLo mSame at r3
  unfold gTake at r4
  unfold gTimes at r5
  unfold gDiv at r6
  unfold gNot at r7
  unfold gRes at r8
  rw [hs] at r1 r2 r3 r4 r5 r6 r7 r8
  subst hw0
  have hst : (store ⟨w.heap.size, 0, none⟩ (.func (.func 45) #[] #[])).run Tryd.prog (w.alloc (.cells #[.nilFunc] 47)) = .ok () (w.alloc (.cells #[.func (.func 45) #[] #[]] 47)) := by
    rw [run_store Tryd.prog _ _ _ _ (by rfl), World.setCell_alloc_new]
    simp
  go_enter Tryd.func22, Tryd.ntmps22
  go_wp2_with fail
  go_ret
  exact ⟨rfl, hm8, hc8, hb8⟩

set_option maxRecDepth 100000 in
set_option maxHeartbeats 4000000 in
theorem mon_same (y : Int) (w : World) :
    Calls Tryd.prog 44 #[.int .i64 y] w fun r w' => r = .returned (.tuple #[.int .i64 y, .nilIface]) ∧ Below w.heap.size w w' := by
  go_enter Tryd.func44, Tryd.ntmps44
  go_wp2_with fail
  go_ret2
  exact ⟨rfl, Below.refl _ _⟩

set_option maxRecDepth 100000 in
set_option maxHeartbeats 4000000 in
theorem mon_minus (y : Int) (a d : Addr) (g : ByteArray) (w : World) (hy : fits y = true) (hg : OverAt a w) :
    Calls Tryd.prog 45 #[.int .i64 y] w fun r w' => r = .returned (.tuple #[.int .i64 (orOver (-y)).1, errV a d g (orOver (-y)).2]) ∧ Below w.heap.size w w' := by
  have T := Lib.hid (take_out 0 y a d g w (by decide) hy hg)
  rw [Int.zero_sub] at T
  go_enter Tryd.func45, Tryd.ntmps45
  go_wp2_with fail
  refine T.out.mono ?_
  rintro r w' ⟨rfl, hb⟩
  go_wp2_with fail
  go_ret2
  exact ⟨rfl, hb⟩

set_option maxRecDepth 100000 in
set_option maxHeartbeats 4000000 in
theorem mon_sign (y : Int) (w : World) :
    Calls Tryd.prog 46 #[.int .i64 y] w fun r w' => r = .returned (.tuple #[.int .i64 (bit (decide (0 < y)) - bit (decide (y < 0))), .nilIface]) ∧ Below w.heap.size w w' := by
  go_enter Tryd.func46, Tryd.ntmps46
  have hw : ∀ p q : Bool, IntKind.i64.wrap ((if p = true then 1 else 0) - (if q = true then 1 else 0)) = bit p - bit q := fun p q => by cases p <;> cases q <;> decide
  have D := fun (x : Bool) (u : World) => bit_any x u
  obtain ⟨p, hp⟩ : ∃ p, decide (0 < y) = p := ⟨_, rfl⟩
  obtain ⟨q, hq⟩ : ∃ q, decide (y < 0) = q := ⟨_, rfl⟩
  have E := Lib.hid (hw p q)
  rw [hp, hq]
  clear hw
  cases p <;> cases q
  all_goals
    go_wp2_with fail
    refine (D _ _).mono ?_
    rintro r w' ⟨rfl, rfl⟩
    go_wp2_with fail
    refine (D _ _).mono ?_
    rintro r w' ⟨rfl, rfl⟩
    go_wp2_with fail
    go_ret2
    exact ⟨by rw [← E.out]; rfl, Below.refl _ _⟩

set_option maxRecDepth 100000 in
set_option maxHeartbeats 4000000 in
theorem mon_over (y : Int) (a d : Addr) (g : ByteArray) (w : World) (hy : fits y = true) (hg : OverAt a w) (hd : DivideAt d w) :
    Calls Tryd.prog 48 #[.int .i64 y] w fun r w' => r = .returned (.tuple #[.int .i64 (divOut 1 y).1, errV a d g (divOut 1 y).2]) ∧ Below w.heap.size w w' := by
  have T := Lib.hid (divide_out 1 y a d g w (by decide) hy hg hd)
  go_enter Tryd.func48, Tryd.ntmps48
  go_wp2_with fail
  refine T.out.mono ?_
  rintro r w' ⟨rfl, hb⟩
  go_wp2_with fail
  go_ret2
  exact ⟨rfl, hb⟩
end Go.Proofs.YtkghmcfbhojbaaaDoor
