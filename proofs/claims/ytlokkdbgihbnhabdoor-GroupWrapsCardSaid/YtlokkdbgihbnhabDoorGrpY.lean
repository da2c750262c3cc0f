/-
  The tokens of a text, by the document's program text: where no number, no text in quotes stands in it; of the text that is shown.
-/
import Derived.Test.YtlokkdbgihbnhabDoorProg
import Derived.Test.YtlokkdbgihbnhabDoorReg
import Derived.WalkKit
import Derived.WalkSpells
import Derived.WalkLawsBesides
import Derived.Lib.Hide
import Derived.Lib.MinMax
import Derived.Deep.QuietTactic
import Derived.BigQuiet
import Derived.OwnWalk
import Derived.Deep.AppendLies
import Derived.KernelRfl
import Derived.Laws.Rows
import Derived.Test.YtlokkdbgihbnhabDoorGrpI
import Derived.Test.YtlokkdbgihbnhabDoorGrpX
set_option linter.unusedSimpArgs false
set_option linter.unusedVariables false
namespace Go.Proofs.YtlokkdbgihbnhabDoor
open Go.RowKit

theorem tokCells_append_one (l : List Tok) (x : Tok) : tokCells (l ++ [x]) = tokCells l ++ x.cells := by rw [tokCells_append, tokCells_one]

def simpleB (s : ByteArray) : Bool := decide (0 < s.size) && (decide (dBlanks s = 0) && (decide (gClass (gFirst s).1 ≠ 6) && (decide (byte0 s ≠ 39) && (decide (gClass (gFirst s).1 ≠ 5) && (decide (¬ (48 ≤ byte0 s ∧ byte0 s ≤ 57)) && (decide (dWord s ≤ 20) && (decide (dWord s ≤ s.size) && (decide ((gFirst s).2 ≤ s.size) && decide (0 < dWord s ∨ 0 < (gFirst s).2)))))))))
theorem simple_of {s : ByteArray} (h : simpleB s = true) : Simple s := by
  unfold simpleB at h
  simp only [Bool.and_eq_true, decide_eq_true_eq] at h
  exact h
/-- All tokens of a text are names, signs; it has no more than n. -/
def allSimple : Nat → ByteArray → Bool
  | 0, s => decide (s = noText)
  | n + 1, s => decide (s = noText) || (simpleB s && (decide (0 < (dFirst s).text.size ∧ (dFirst s).text.size ≤ s.size) && allSimple n (s.extract (dFirst s).text.size s.size)))
theorem shown_simple : allSimple 9 shownText = true := by decide +kernel

theorem allSimple_step {n : Nat} {s : ByteArray} (h : allSimple n s = true) (hs : s ≠ noText) : ∃ m, n = m + 1 ∧ Simple s ∧ 0 < (dFirst s).text.size ∧ (dFirst s).text.size ≤ s.size ∧ allSimple m (s.extract (dFirst s).text.size s.size) = true ∧ dLineGo n s = dFirst s :: dLineGo m (s.extract (dFirst s).text.size s.size) := by
  cases n with
  | zero => simp [allSimple, hs] at h
  | succ m =>
    simp only [allSimple, hs, decide_false, Bool.false_or, Bool.and_eq_true, decide_eq_true_eq] at h
    obtain ⟨h1, ⟨h2, h3⟩, h4⟩ := h
    exact ⟨m, rfl, simple_of h1, h2, h3, h4, by simp [dLineGo, hs]⟩
theorem dLineGo_none (n : Nat) : dLineGo n noText = [] := by
  cases n <;> simp [dLineGo]

set_option maxRecDepth 100000 in
set_option maxHeartbeats 4000000 in
theorem line_any (s : ByteArray) (N : Nat) (w : World) (hN : N ≤ 1000) (hs : s.size ≤ 1000000) (hp : allSimple N s = true) :
    Calls Tryd.prog 9 #[.string s] w fun r w' => ∃ B d, r = .returned (.slice B (dLineGo N s).length d) ∧ HoldsT w' B (dLineGo N s) ∧ (dLineGo N s).length ≤ d ∧ Below w.heap.size w w' := by
  obtain ⟨i0, hi0, hz0, hz1, hz2⟩ := info_parts infoTok
  have HF := Lib.hid first_any
  go_enter Tryd.func9, Tryd.ntmps9
  go_wp2
  go_loopw [0, 3] (fun t v wr => ∃ (u : ByteArray) (n : Nat) (done : List Tok), t = .string u ∧ u.size ≤ 1000000 ∧ allSimple n u = true ∧ done.length + n = N ∧ done ++ dLineGo n u = dLineGo N s ∧
      wr.ownsRow w.heap.size 30 3 v done.length (tokCells done) ∧ Below w.heap.size w wr)
    (fun t _ _ => match t with | .string u => u.size | _ => 0)
  case atStart => exact ⟨s, N, [], rfl, hs, hp, by simp, by simp, World.ownsRow_nil _ _ _ _, Below.refl _ _⟩
  case round =>
    obtain ⟨u, n, done, rfl, hu, hsi, hdn, hdone, hown, hb⟩ := hrel
    by_cases he : u = noText
    · have hd2 : done = dLineGo N s := by rw [← hdone, he, dLineGo_none, List.append_nil]
      have Hd := Lib.hid hd2
      have q := empty_is he
      clear hdone hd2 he
      go_wp2_with fail
      go_ret
      obtain ⟨B, d, rfl, _, hH, hcap⟩ := holdsT_of_own hown
      rw [Hd.out] at hH hcap
      exact ⟨B, d, by rw [← Hd.out]; rfl, hH, hcap, hb⟩
    · obtain ⟨m, rfl, h1, h2, h3, h4, h5⟩ := allSimple_step hsi he
      rw [h5] at hdone
      have q := empty_not he
      have HF1 := Lib.hid (HF.out u wr hu h1)
      obtain ⟨x, hx⟩ : ∃ x, dFirst u = x := ⟨_, rfl⟩
      rw [hx] at HF1 h2 h3 h4 hdone
      obtain ⟨u2, hu2⟩ : ∃ u2, u.extract x.text.size u.size = u2 := ⟨_, rfl⟩
      have hsz : u2.size = u.size - x.text.size := by rw [← hu2, ByteArray.size_extract]; omega
      rw [hu2] at h4 hdone
      have H4 := Lib.hid h4
      have Hd : Hid ((done ++ [x]) ++ dLineGo m u2 = dLineGo N s) := Lib.hid (by rw [← hdone]; simp)
      clear h4 hdone h5 hsi hx h1 HF he
      unfold Tok.val at HF1
      have l1 : (x.text.size : Int) ≤ (u.size : Int) := by omega
      go_wp2_with fail
      refine HF1.out.mono ?_
      rintro r w1 ⟨rfl, hb1⟩
      have hown1 : w1.ownsRow w.heap.size 30 3 u3 done.length (tokCells done) := own_below hown hb1
      have B1 := Lib.hid (hb.trans (hb1.mono hb.size))
      have lo := ownBlock_lt hown1
      have ge := ownBlock_ge hown1
      have lw := B1.out.size
      clear hb1 hown hb HF1
      go_wp2_with (at_builtin; refine wpList_append_own _ rfl _ _ 22 rfl w.heap.size 30 i0 _ 3 40 Tryd.underlying22 hi0 hz0 hz1 hz2 rfl (by decide) u3 done.length (tokCells done) rfl ((hown1.alloc _).alloc _) ⟨w1.heap.size + 1, 0, none⟩ 1 1 x.cells rfl rfl (World.news_of_block (cs := x.cells.toArray) (t := 30) (fr := (0, 0)) (heap_alloc2_new w1 _ _)) (by simp [Tok.cells, Value.oneCell']) (by unfold maxLen; omega) (by omega) (by simp; omega) ?_; intro v' w2 hown2 hgrow2 _; have hc1 := hgrow2.cell_far ⟨w1.heap.size, 1, none⟩ (by simp; omega) (by intro e; have := lo _ e.symm; simp at this))
      rw [← tokCells_append_one] at hown2
      go_roundw
      case rel => exact ⟨u2, m, done ++ [x], rfl, by omega, H4.out, by simp; omega, Hd.out, by simpa using hown2, ((B1.out.alloc (by omega) _).alloc (by simp; omega) _).grown hgrow2 (by simp; omega) ge⟩
      case measure => show u2.size < u.size; omega
end Go.Proofs.YtlokkdbgihbnhabDoor
