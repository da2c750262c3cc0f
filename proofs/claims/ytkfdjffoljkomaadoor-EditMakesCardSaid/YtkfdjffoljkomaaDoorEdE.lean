/-
  Walks: are these edits a text's, by the program.
-/
import Derived.Test.YtkfdjffoljkomaaDoorProg
import Derived.Test.YtkfdjffoljkomaaDoorReg
import Derived.WalkKit
import Derived.WalkSpells
import Derived.WalkLawsBesides
import Derived.Lib.Hide
import Derived.Lib.MinMax
import Derived.Deep.QuietTactic
import Derived.BigQuiet
import Derived.OwnWalk
import Derived.Deep.AppendLies
import Derived.KernelRfl
import Derived.Test.YtkfdjffoljkomaaDoorEdQ
set_option linter.unusedSimpArgs false
set_option linter.unusedVariables false
namespace Go.Proofs.YtkfdjffoljkomaaDoor
open Go.RowKit

/-- What an applier holds: the text, the edits. -/
def IsApplier (w : World) (a : Nat) (s : ByteArray) (A : Option Addr) (n c : Nat) : Prop :=
  w.cell? ⟨a, 0, none⟩ = some (.string s) ∧ w.cell? ⟨a, 1, none⟩ = some (.slice A n c)

/-- What 'checked' answers: nil, or the error E. -/
def checkedOut (s : ByteArray) (l : List Ed) (E : Value) : Value := if right s.size 0 l = true then .nilIface else E
theorem checkedOut_no {s : ByteArray} {l : List Ed} {E : Value} (h : right s.size 0 l = false) : checkedOut s l E = E := by simp [checkedOut, h]
theorem checkedOut_yes {s : ByteArray} {l : List Ed} {E : Value} (h : right s.size 0 l = true) : checkedOut s l E = .nilIface := by simp [checkedOut, h]

set_option maxRecDepth 100000 in
set_option maxHeartbeats 4000000 in
theorem checked_any (a : Nat) (s : ByteArray) (A : Option Addr) (c : Nat) (l : List Ed) (E : Value) (w : World) (hs : s.size ≤ 1000000) (hl : mild l) (hap : IsApplier w a s A l.length c) (hh : Holds w A l)
    (hg : w.cell? ⟨0, 0, none⟩ = some E) :
    Calls Tryd.prog 25 #[.pointer (some ⟨a, 0, none⟩)] w fun e w' => e = .returned (checkedOut s l E) ∧ Below w.heap.size w w' := by
  obtain ⟨hl1, hl2⟩ := hl
  obtain ⟨ha1, ha2⟩ := hap
  have ga := cell_lt ha1
  have gg := cell_lt hg
  simp only at ga gg
  go_enter Tryd.func25, Tryd.ntmps25
  go_wp2
  go_loopw [3, 11] (fun e i wr => ∃ (k : Nat) (v : Int), k ≤ l.length ∧ i = .int .i64 k ∧ e = .int .i64 v ∧ -2000000 ≤ v ∧ v ≤ 2000000 ∧ right s.size v (l.drop k) = right s.size 0 l ∧ Below w.heap.size w wr)
    (fun _ i _ => l.length - (intOf i).toNat)
  case atStart => exact ⟨0, 0, by omega, rfl, rfl, by omega, by omega, rfl, Below.refl _ _⟩
  case round =>
    obtain ⟨k, v, hk, rfl, rfl, hv1, hv2, hr, hbel⟩ := hrel
    have Hr := Lib.hid hr
    clear hr
    have hbz := hbel.size
    have hb1 := (hbel.cell (p := ⟨a, 0, none⟩) ga).trans ha1
    have hb2 := (hbel.cell (p := ⟨a, 1, none⟩) ga).trans ha2
    have hbg := (hbel.cell (p := ⟨0, 0, none⟩) gg).trans hg
    by_cases hlt : k < l.length
    · obtain ⟨b, off, rfl, c1, c2, c3⟩ := (hh.below hbel) k l[k] (List.getElem?_eq_getElem hlt)
      obtain ⟨m1, m2, m3, m4, m5⟩ := hl2 k l[k] (List.getElem?_eq_getElem hlt)
      have hd : l.drop k = l[k] :: l.drop (k + 1) := List.drop_eq_getElem_cons hlt
      generalize l[k] = x at *
      have Hd := Lib.hid hd
      clear hd hl2
      have hsi : (0 : Int) ≤ (s.size : Int) := by omega
      have na : a < wr.heap.size := by omega
      have ng : 0 < wr.heap.size := by omega
      by_cases g1 : x.pos < v
      · go_wp2
        go_quiet (fail)
        go_wp2
        go_ret
        exact ⟨by rw [checkedOut_no (by rw [← Hr.out, Hd.out]; simp [right, g1])]; rfl, below_drewN (hbel.alloc hbz _) _⟩
      have d1 : decide (x.pos < v) = false := by simpa using g1
      by_cases g2 : (s.size : Int) < x.pos
      · go_wp2
        go_quiet (fail)
        go_wp2
        go_ret
        exact ⟨by rw [checkedOut_no (by rw [← Hr.out, Hd.out]; simp [right, g2])]; rfl, below_drewN (hbel.alloc hbz _) _⟩
      have d2 : decide ((s.size : Int) < x.pos) = false := by simpa using g2
      by_cases g3 : x.n < 0
      · go_wp2
        go_quiet (fail)
        go_wp2
        go_ret
        exact ⟨by rw [checkedOut_no (by rw [← Hr.out, Hd.out]; simp [right, g3])]; rfl, below_drewN (hbel.alloc hbz _) _⟩
      have d3 : decide (x.n < 0) = false := by simpa using g3
      by_cases g4 : (s.size : Int) - x.pos < x.n
      · go_wp2
        go_quiet (fail)
        go_wp2
        go_ret
        exact ⟨by rw [checkedOut_no (by rw [← Hr.out, Hd.out]; simp [right, g4])]; rfl, below_drewN (hbel.alloc hbz _) _⟩
      have d4 : decide ((s.size : Int) - x.pos < x.n) = false := by simpa using g4
      go_wp2
      go_quiet (fail)
      go_wp2
      go_roundw
      case rel => exact ⟨k + 1, x.pos + x.n, by omega, by go_num, rfl, by omega, by omega, by rw [← Hr.out, Hd.out]; simp [right, g1, g2, g3, g4], below_drewN (hbel.alloc hbz _) _⟩
      case measure => simp [intOf]; omega
    · obtain rfl : k = l.length := by omega
      have hf : right s.size 0 l = true := by rw [← Hr.out]; simp [right]
      have Hf := Lib.hid hf
      clear hf
      go_wp2
      go_ret
      exact ⟨by rw [checkedOut_yes Hf.out]; rfl, hbel⟩

set_option maxRecDepth 100000 in
set_option maxHeartbeats 2000000 in
theorem right_any (s : ByteArray) (A : Option Addr) (c : Nat) (l : List Ed) (b : Addr) (w : World) (hs : s.size ≤ 1000000) (hl : mild l) (hh : Holds w A l)
    (hg : w.cell? ⟨0, 0, none⟩ = some (.iface 92 (.pointer (some b)))) :
    Calls Tryd.prog 19 #[.string s, .slice A l.length c] w fun e w' => e = .returned (.bool (right s.size 0 l)) ∧ Below w.heap.size w w' := by
  have hb0 : Below w.heap.size w (w.alloc (.cells #[.string s, .slice A l.length c] 43)) := (Below.refl _ _).alloc (Nat.le_refl _) _
  have hap : IsApplier (w.alloc (.cells #[.string s, .slice A l.length c] 43)) w.heap.size s A l.length c := ⟨by simp, by simp⟩
  have hg' := (hb0.cell (p := ⟨0, 0, none⟩) (cell_lt hg)).trans hg
  have HC := checked_any w.heap.size s A c l _ _ hs hl hap (hh.below hb0) hg'
  cases hr : right s.size 0 l with
  | false =>
    rw [checkedOut_no hr] at HC
    have H := Lib.hid HC
    clear HC hr hg hg' hap
    go_enter Tryd.func19, Tryd.ntmps19
    go_wp2_with (go_at_call 25; refine H.out.mono ?_; rintro e w' ⟨rfl, hb1⟩)
    go_ret
    exact ⟨rfl, hb0.trans (hb1.mono (by simp))⟩
  | true =>
    rw [checkedOut_yes hr] at HC
    have H := Lib.hid HC
    clear HC hr hg hg' hap
    go_enter Tryd.func19, Tryd.ntmps19
    go_wp2_with (go_at_call 25; refine H.out.mono ?_; rintro e w' ⟨rfl, hb1⟩)
    go_ret
    exact ⟨rfl, hb0.trans (hb1.mono (by simp))⟩
end Go.Proofs.YtkfdjffoljkomaaDoor
