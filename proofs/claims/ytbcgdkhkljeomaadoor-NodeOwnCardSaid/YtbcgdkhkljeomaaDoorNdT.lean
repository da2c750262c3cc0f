/-
  The walk of 'Few': the first nodes, cut.
-/
import Derived.Test.YtbcgdkhkljeomaaDoorProg
import Derived.Test.YtbcgdkhkljeomaaDoorReg
import Derived.WalkKit
import Derived.WalkSpells
import Derived.WalkLawsBesides
import Derived.Lib.Hide
import Derived.Lib.MinMax
import Derived.Deep.QuietTactic
import Derived.BigQuiet
import Derived.OwnWalk
import Derived.Deep.AppendLies
import Derived.KernelRfl
import Derived.Deep.RegionWith
import Derived.Deep.CutBlock
import Derived.Deep.Upon
import Derived.Test.YtbcgdkhkljeomaaDoorNdS
set_option linter.unusedSimpArgs false
set_option linter.unusedVariables false
namespace Go.Proofs.YtbcgdkhkljeomaaDoor
open Go.RowKit

def cut50 (s : ByteArray) : ByteArray := s.extract 0 (min s.size 50)
def few1 (x : Nd) : Nd := ⟨x.kind, cut50 x.text, x.kids.take 60⟩
def fewN (t : List Nd) : List Nd := (t.take 60).map few1
theorem fewN_small (t : List Nd) (hw : ∀ x ∈ t, (Lit.int .i64 x.kind).wf = true ∧ ∀ k ∈ x.kids, (Lit.int .i64 k).wf = true) : IntN (fewN t) := by
  intro x hx
  unfold fewN at hx
  obtain ⟨y, hy, rfl⟩ := List.mem_map.1 hx
  obtain ⟨h1, h2⟩ := hw y (List.mem_of_mem_take hy)
  refine ⟨h1, ?_, ?_, fun k hk => h2 k (List.mem_of_mem_take hk)⟩
  · simp [few1]; omega
  · simp [few1, cut50, ByteArray.size_extract]; omega

set_option maxHeartbeats 4000000 in
theorem cut_any (s : ByteArray) (w : World) (hs : s.size ≤ maxLen) :
    Calls Tryd.prog 13 #[.string s] w fun e w' => e = .returned (.string (cut50 s)) ∧ w' = w := by
  unfold maxLen at hs
  unfold cut50
  have e : (min (s.size : Int) 50).toNat = min s.size 50 := by omega
  go_enter Tryd.func13, Tryd.ntmps13
  go_wp2
  go_ret
  exact ⟨by rw [← e]; rfl, rfl⟩

/-- Numbers are appended to none. -/
theorem push_ints {W : World} {base : Nat} {B : Option Addr} {l : List Int} {c2 : Nat} (hH : HoldsI W B l) (hl : l.length ≤ 1000000) (hbase : base ≤ W.heap.size) :
    ∃ A c w', (Builtin.append_ #[35, 35] 35 #[.slice none 0 0, .slice B l.length c2]).run Tryd.prog W = .ok (.slice A l.length c) w' ∧ w'.ownsRow base tI 1 (.slice A l.length c) l.length (intCells l) ∧ W.grownBy w' none := by
  obtain ⟨i0, hi0, hz0, hz1, hz2⟩ := info_parts infoInt
  cases hle : l with
  | nil =>
    subst hle
    refine ⟨none, 0, W, ?_, World.ownsRow_nil _ _ _ _, World.grownBy.refl _ _⟩
    refine run_append_nothing (P := Tryd.prog) W 35 35 35 tI i0 Tryd.underlying35 hi0 none 0 0 (Nat.le_refl _) (.slice B 0 c2) ⟨.inl ⟨_, Tryd.underlying35⟩, fun w' => ?_, ?_, ?_, by rw [Nat.zero_mul]; rfl, by simp⟩
    · simp [Builtin.lenOf]
    · cases B <;> simp [Builtin.firstCells, loadCellsFrom, loadCells]
    · cases B <;> simp [Builtin.firstCells, loadCellsFrom, loadCells]
  | cons x l' =>
    rw [← hle]
    have h0 : l[0]? = some x := by rw [hle]; rfl
    obtain ⟨b, off, rfl, _⟩ := hH 0 x h0
    obtain ⟨v', w', hr, ho, hgr, _, hat⟩ := run_append_own_at (P := Tryd.prog) W base 35 35 tI i0 _ 1 8 Tryd.underlying35 hi0 hz0 hz1 hz2 rfl (by decide) (.slice none 0 0) 0 [] (World.ownsRow_nil _ _ _ _) ⟨b, off, none⟩ l.length c2 (intCells l) (by rw [intCells_length]; omega)
      (fun j u hj => by
        simp only [intCells, List.getElem?_map] at hj
        obtain ⟨y, hy, rfl⟩ := Option.map_eq_some_iff.1 hj
        obtain ⟨b', off', e, h1⟩ := hH j y hy
        cases e
        have ea : (⟨b, off, none⟩ : Addr).add j = ⟨b, off + j, none⟩ := by
          unfold Addr.add
          split
          · rename_i h; subst h; rfl
          · rfl
        rw [ea]
        exact h1) (by intro u hu; simp only [intCells, List.mem_map] at hu; obtain ⟨y, _, rfl⟩ := hu; rfl) (by unfold maxLen; omega) (by omega) hbase
    rw [Nat.zero_add] at ho
    obtain ⟨A, c, rfl, _, _, _⟩ := holdsI_of_own ho
    exact ⟨A, c, w', hr, ho, hgr⟩
end Go.Proofs.YtbcgdkhkljeomaaDoor
