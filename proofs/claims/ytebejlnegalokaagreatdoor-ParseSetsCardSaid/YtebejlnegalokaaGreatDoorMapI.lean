/-
  A map from numbers that a call has made, told by what it holds at each number. No program here.
-/
import Derived.Test.YtebejlnegalokaaGreatDoorMap
set_option linter.unusedSimpArgs false
set_option linter.unusedVariables false
namespace Go.Proofs.YtebejlnegalokaaGreatDoor
open Go.RowKit Go.Maps

/-- Block b of w is a map from ints of at most n entries; at each number it holds what 'look' says. -/
def MapIsI (w : World) (P : Program) (k : TypeId) (b n : Nat) (look : Int → Option Value) : Prop :=
  ∃ D : DataW Value, w.ownsMap P k asItself b n D ∧ IsMap D ∧ ∀ (g : Int) (z : DataW Value), (Lit.int .i64 g).wf = true → D.atKey (.int .i64 g) z = ((look g).map DataW.held).getD z

section
variable {P : Program} {k : TypeId} {w : World} {b n : Nat} {look : Int → Option Value}

theorem MapIsI.made (w : World) (P : Program) (k : TypeId) : MapIsI (w.alloc (.map #[] 0)) P k w.heap.size 0 (fun _ => none) :=
  ⟨.map [], World.ownsMap_made w P k asItself, isMap_empty, fun _ _ _ => rfl⟩

theorem MapIsI.kept {w' : World} {row : Option Nat} (h : MapIsI w P k b n look) (hg : w.grownBy w' row) (hne : some b ≠ row) : MapIsI w' P k b n look := by
  obtain ⟨D, h1, h2⟩ := h
  exact ⟨D, h1.kept hg hne, h2⟩

theorem MapIsI.below {w' : World} (h : MapIsI w P k b n look) (hb : Below w.heap.size w w') : MapIsI w' P k b n look := by
  obtain ⟨D, ⟨es, c, h1, h3⟩, h2⟩ := h
  have hlt : b < w.heap.size := by
    rcases Nat.lt_or_ge b w.heap.size with h | h
    · exact h
    · simp [Array.getElem?_eq_none h] at h1
  exact ⟨D, ⟨es, c, (hb.block b hlt).trans h1, h3⟩, h2⟩

theorem MapIsI.put {t e : TypeId} (h : MapIsI w P k b n look) (hk : P.underlying k = some (.int .i64)) (ht : P.underlying t = some (.map k e)) (hn : n < maxLen) (g : Int) (hg : (Lit.int .i64 g).wf = true) (v : Value) :
    ∃ w', (Instr.mapUpdate t (.map (some b)) (.int .i64 g) v).run P w = .ok () w' ∧ MapIsI w' P k b (n + 1) (fun x => if x = g then some v else look x) ∧ w.grownBy w' (some b) := by
  obtain ⟨D, h1, h2, h3⟩ := h
  obtain ⟨w', hrun, hown, hgr⟩ := h1.update (int_keyed hk) ht hn (keyOf_int_mk hk hg) (show asItself v = some (.held v, []) from rfl)
  refine ⟨w', hrun, ⟨_, hown, h2.put _ _, fun x z hx2 => ?_⟩, hgr⟩
  by_cases hx : x = g
  · subst hx
    rw [atKey_put_same h2 (show WideAt.IsKeyLit (.int .i64 x) from trivial)]
    simp
  · rw [atKey_put_other (by simpa using hx), h3 x z hx2]
    simp [hx]

theorem MapIsI.get {t e : TypeId} (c : Bool) (h : MapIsI w P k b n look) (hk : P.underlying k = some (.int .i64)) (ht : P.underlying t = some (.map k e)) {z : Value} (hz : (zeroValue e).run P w = .ok z w) (g : Int) (hg : (Lit.int .i64 g).wf = true) :
    (Instr.lookup t (.map (some b)) (.int .i64 g) c).run P w = .ok (if c then .tuple #[(look g).getD z, .bool (look g).isSome] else (look g).getD z) w := by
  obtain ⟨D, ⟨es, clock, hb, F, _, rfl⟩, h2, h3⟩ := h
  rcases fit_look c (int_keyed hk) ht hz hb F (keyOf_int_mk hk hg) with ⟨hrun, _, hat⟩ | ⟨e0, y, _, _, hrun, hRv, hat, _⟩
  · have e1 := (h3 g .nil hg).symm.trans (hat .nil)
    cases hl : look g with
    | none => simpa using hrun
    | some v => rw [hl] at e1; simp at e1
  · have e1 := (h3 g .nil hg).symm.trans (hat .nil)
    have e2 : y.1 = .held e0.val := by
      have := Option.some.inj hRv
      rw [← this]
    rw [e2] at e1
    cases hl : look g with
    | none => rw [hl] at e1; simp at e1
    | some v =>
      rw [hl] at e1
      simp at e1
      subst e1
      simpa using hrun
end
end Go.Proofs.YtebejlnegalokaaGreatDoor
