/-
  A map from texts that a call has made, told by what it holds at each text. No program here.
-/
import Derived.Maps.Own
import Derived.Maps.OwnSet
import Derived.Maps.Views
import Derived.Below
import Derived.OwnWalk
set_option linter.unusedSimpArgs false
set_option linter.unusedVariables false
namespace Go.Proofs.YtamclieppbnpiabGreatDoor
open Go.RowKit Go.Maps

/-- A value read as itself. -/
def asItself (v : Value) : Option (DataW Value × List MemPlace) := some (.held v, [])

/-- Block b of w is a map from texts of at most n entries; at each text it holds what 'look' says. -/
def MapIs (w : World) (P : Program) (k : TypeId) (b n : Nat) (look : ByteArray → Option Value) : Prop :=
  ∃ D : DataW Value, w.ownsMap P k asItself b n D ∧ IsMap D ∧ ∀ (g : ByteArray) (z : DataW Value), D.atKey (.string g.data.toList) z = ((look g).map DataW.held).getD z

section
variable {P : Program} {k : TypeId} {w : World} {b n : Nat} {look : ByteArray → Option Value}

theorem text_key (hk : P.underlying k = some .string) {g : ByteArray} (hg : g.size ≤ maxLen) : keyOf P k (.string g) = some (.string g.data.toList) := by
  simp [keyOf, mapKey, hk, hg]

theorem MapIs.made (w : World) (P : Program) (k : TypeId) : MapIs (w.alloc (.map #[] 0)) P k w.heap.size 0 (fun _ => none) :=
  ⟨.map [], World.ownsMap_made w P k asItself, isMap_empty, fun _ _ => rfl⟩

theorem MapIs.kept {w' : World} {row : Option Nat} (h : MapIs w P k b n look) (hg : w.grownBy w' row) (hne : some b ≠ row) : MapIs w' P k b n look := by
  obtain ⟨D, h1, h2⟩ := h
  exact ⟨D, h1.kept hg hne, h2⟩

theorem MapIs.below {w' : World} (h : MapIs w P k b n look) (hb : Below w.heap.size w w') : MapIs w' P k b n look := by
  obtain ⟨D, ⟨es, c, h1, h3⟩, h2⟩ := h
  have hlt : b < w.heap.size := by
    rcases Nat.lt_or_ge b w.heap.size with h | h
    · exact h
    · simp [Array.getElem?_eq_none h] at h1
  exact ⟨D, ⟨es, c, (hb.block b hlt).trans h1, h3⟩, h2⟩

theorem text_inj {g g' : ByteArray} (h : g.data.toList = g'.data.toList) : g = g' := by
  obtain ⟨⟨a⟩⟩ := g
  obtain ⟨⟨a'⟩⟩ := g'
  simp at h
  rw [h]

theorem MapIs.put {t e : TypeId} (h : MapIs w P k b n look) (hk : P.underlying k = some .string) (ht : P.underlying t = some (.map k e)) (hn : n < maxLen) (g : ByteArray) (hg : g.size ≤ maxLen) (v : Value) :
    ∃ w', (Instr.mapUpdate t (.map (some b)) (.string g) v).run P w = .ok () w' ∧ MapIs w' P k b (n + 1) (fun x => if x = g then some v else look x) ∧ w.grownBy w' (some b) := by
  obtain ⟨D, h1, h2, h3⟩ := h
  obtain ⟨w', hrun, hown, hgr⟩ := h1.update (string_keyed hk) ht hn (text_key hk hg) (show asItself v = some (.held v, []) from rfl)
  refine ⟨w', hrun, ⟨_, hown, h2.put _ _, fun x z => ?_⟩, hgr⟩
  by_cases hx : x = g
  · subst hx
    rw [atKey_put_same h2 (show WideAt.IsKeyLit (.string x.data.toList) from trivial)]
    simp
  · rw [atKey_put_other (by simpa using fun e => hx (text_inj e)), h3]
    simp [hx]

theorem MapIs.get {t e : TypeId} (c : Bool) (h : MapIs w P k b n look) (hk : P.underlying k = some .string) (ht : P.underlying t = some (.map k e)) {z : Value} (hz : (zeroValue e).run P w = .ok z w) (g : ByteArray) (hg : g.size ≤ maxLen) :
    (Instr.lookup t (.map (some b)) (.string g) c).run P w = .ok (if c then .tuple #[(look g).getD z, .bool (look g).isSome] else (look g).getD z) w := by
  obtain ⟨D, ⟨es, clock, hb, F, _, rfl⟩, h2, h3⟩ := h
  rcases fit_look c (string_keyed hk) ht hz hb F (text_key hk hg) with ⟨hrun, _, hat⟩ | ⟨e0, y, _, _, hrun, hRv, hat, _⟩
  · have e1 := (h3 g .nil).symm.trans (hat .nil)
    cases hl : look g with
    | none => simpa using hrun
    | some v => rw [hl] at e1; simp at e1
  · have e1 := (h3 g .nil).symm.trans (hat .nil)
    have e2 : y.1 = .held e0.val := by
      have := Option.some.inj hRv
      rw [← this]
    rw [e2] at e1
    cases hl : look g with
    | none => rw [hl] at e1; simp at e1
    | some v =>
      rw [hl] at e1
      simp at e1
      subst e1
      simpa using hrun
end
end Go.Proofs.YtamclieppbnpiabGreatDoor
