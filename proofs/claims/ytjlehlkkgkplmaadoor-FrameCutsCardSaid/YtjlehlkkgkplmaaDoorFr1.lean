/-
  A reader fed by the document's program text; how much is left.
-/
import Derived.Test.YtjlehlkkgkplmaaDoorProg
import Derived.Test.YtjlehlkkgkplmaaDoorReg
import Derived.WalkKit
import Derived.WalkSpells
import Derived.WalkLawsBesides
import Derived.Lib.Hide
import Derived.Lib.MinMax
import Derived.Deep.QuietTactic
import Derived.BigQuiet
import Derived.OwnWalk
import Derived.Deep.AppendLies
import Derived.KernelRfl
import Derived.Test.YtjlehlkkgkplmaaDoorFrZ
set_option linter.unusedSimpArgs false
set_option linter.unusedVariables false
namespace Go.Proofs.YtjlehlkkgkplmaaDoor
open Go Go.RowKit

/-- The document's reader at Y keeps s; is it wrong? -/
def IsRR (w : World) (Y : Nat) (s : ByteArray) (bad : Bool) : Prop := w.heap[Y]? = some (.cells #[.string s, .bool bad] 37 (0, 0))
theorem IsRR.below {w w' : World} {Y : Nat} {s : ByteArray} {bad : Bool} (h : IsRR w Y s bad) (hb : Below w.heap.size w w') : IsRR w' Y s bad := (hb.block Y (Array.getElem?_eq_some_iff.1 h).1).trans h
theorem IsRR.lt {w : World} {Y : Nat} {s : ByteArray} {bad : Bool} (h : IsRR w Y s bad) : Y < w.heap.size := (Array.getElem?_eq_some_iff.1 h).1
theorem IsRR.c0 {w : World} {Y : Nat} {s : ByteArray} {bad : Bool} (h : IsRR w Y s bad) : w.cell? ⟨Y, 0, none⟩ = some (.string s) := by simp [World.cell?, show w.heap[Y]? = _ from h]
theorem IsRR.c1 {w : World} {Y : Nat} {s : ByteArray} {bad : Bool} (h : IsRR w Y s bad) : w.cell? ⟨Y, 1, none⟩ = some (.bool bad) := by simp [World.cell?, show w.heap[Y]? = _ from h]
theorem IsRR.z {w : World} {Y : Nat} {s : ByteArray} {bad : Bool} (h : IsRR w Y s bad) (j : Nat) : w.frozen? ⟨Y, j, none⟩ = false := frozen_of_row w Y j _ _ h
theorem IsRR.put {w : World} {Y : Nat} {s : ByteArray} {bad : Bool} (h : IsRR w Y s bad) (t : ByteArray) (b : Bool) : IsRR ((w.setCell ⟨Y, 0, none⟩ (.string t)).setCell ⟨Y, 1, none⟩ (.bool b)) Y t b := by
  have h1 := heap_setCell_same w Y 0 _ _ (.string t) h
  unfold IsRR
  rw [heap_setCell_same _ Y 1 _ _ (.bool b) h1]
  simp

set_option maxRecDepth 100000 in
set_option maxHeartbeats 4000000 in
theorem RLeft_any (Y : Nat) (s : ByteArray) (bad : Bool) (w : World) (hs : s.size ≤ 1000000) (h : IsRR w Y s bad) :
    Calls Tryd.prog 21 #[.pointer (some ⟨Y, 0, none⟩)] w fun e w' => e = .returned (.int .i64 s.size) ∧ w' = w := by
  have c0 := h.c0
  clear h
  go_enter Tryd.func21, Tryd.ntmps21
  go_wp2_with fail
  go_ret
  exact ⟨rfl, rfl⟩
set_option maxRecDepth 100000 in
set_option maxHeartbeats 4000000 in
theorem RFeed_bad (Y : Nat) (t s : ByteArray) (w : World) (h : IsRR w Y t true) :
    Calls Tryd.prog 19 #[.pointer (some ⟨Y, 0, none⟩), .string s] w fun e w' => e = .returned (.tuple #[.slice none 0 0, .int .i64 160]) ∧ w' = w := by
  have c1 := h.c1
  clear h
  go_enter Tryd.func19, Tryd.ntmps19
  go_wp2_with fail
  go_ret2
  exact ⟨rfl, rfl⟩
set_option maxRecDepth 100000 in
set_option maxHeartbeats 4000000 in
theorem RFeed_any (Y : Nat) (t s : ByteArray) (w : World) (hz : t.size + s.size ≤ 900000) (h : IsRR w Y t false) :
    Calls Tryd.prog 19 #[.pointer (some ⟨Y, 0, none⟩), .string s] w fun e w' => ∃ v, e = .returned (.tuple #[v, .int .i64 (numB (splitB (t ++ s)).2.2)]) ∧
      w'.ownsRow w.heap.size sK 1 v (splitB (t ++ s)).1.length (strCells (splitB (t ++ s)).1) ∧ w.grownBy w' (some Y) ∧ IsRR w' Y (splitB (t ++ s)).2.1 (splitB (t ++ s)).2.2 := by
  have c0 := h.c0
  have c1 := h.c1
  have lY := h.lt
  have hsz := ByteArray.size_append (a := t) (b := s)
  have HS := Lib.hid (RSplit_any (t ++ s) w (by omega))
  have nb : ¬ 9223372036854775807 < t.size + s.size := by omega
  have nb2 : ¬ (9223372036854775807 : Int) < (t.size : Int) + (s.size : Int) := by omega
  generalize splitB (t ++ s) = P at *
  obtain ⟨bs, rest, bad⟩ := P
  have HY := Lib.hid h
  clear h hsz
  go_enter Tryd.func19, Tryd.ntmps19
  go_wp2_with fail
  refine HS.out.mono ?_
  rintro e w1 ⟨v, rfl, ho, hb⟩
  have HY1 := Lib.hid (HY.out.below hb)
  have HB := Lib.hid hb
  have HO := Lib.hid ho
  have k0 := HY1.out.c0
  have k1 := HY1.out.c1
  have z0 := HY1.out.z 0
  have z1 := HY1.out.z 1
  have l1 := HY1.out.lt
  obtain ⟨A5, c5, rfl⟩ := owns_slice ho
  have q : ((numB bad) != 0) = bad := by cases bad <;> rfl
  have HOf : Hid (((w1.setCell ⟨Y, 0, none⟩ (.string rest)).setCell ⟨Y, 1, none⟩ (.bool bad)).ownsRow w.heap.size sK 1 (.slice A5 bs.length c5) bs.length (strCells bs)) := Lib.hid (by
    have hg : w1.grownBy ((w1.setCell ⟨Y, 0, none⟩ (.string rest)).setCell ⟨Y, 1, none⟩ (.bool bad)) (some Y) := grown_set (grown_set (grown_low Y (Below.refl w1.heap.size w1)) _ _) _ _
    exact ho.kept hg (Or.inr (fun e => by have := ownBlock_ge ho Y e; omega)))
  clear ho hb c0 c1 HS
  go_wp2_with fail
  go_ret2
  exact ⟨_, rfl, HOf.out, grown_set (grown_set (grown_low Y HB.out) _ _) _ _, HY1.out.put rest bad⟩
end Go.Proofs.YtjlehlkkgkplmaaDoor
