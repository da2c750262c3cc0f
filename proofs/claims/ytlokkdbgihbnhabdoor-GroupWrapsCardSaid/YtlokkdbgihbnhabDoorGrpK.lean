/-
  Partners, depths, by the program; a slice's copy.
-/
import Derived.Test.YtlokkdbgihbnhabDoorProg
import Derived.Test.YtlokkdbgihbnhabDoorReg
import Derived.WalkKit
import Derived.WalkSpells
import Derived.WalkLawsBesides
import Derived.Lib.Hide
import Derived.Lib.MinMax
import Derived.Deep.QuietTactic
import Derived.BigQuiet
import Derived.OwnWalk
import Derived.Deep.AppendLies
import Derived.KernelRfl
import Derived.ArgAppend
import Derived.Lib.SliceRun
import Derived.Maps.AppendAt
import Derived.Test.YtlokkdbgihbnhabDoorGrpJc
import Derived.Test.YtlokkdbgihbnhabDoorGrpF
set_option linter.unusedSimpArgs false
set_option linter.unusedVariables false
namespace Go.Proofs.YtlokkdbgihbnhabDoor
open Go Go.RowKit

/-- The two listed variables. -/
structure Listed (w : World) : Prop where
  type_ : w.cell? ⟨1, 0, none⟩ = some (.iface 96 (.agg #[.pointer (some ⟨2, 47, none⟩)]))
  err : ∃ bq, w.cell? ⟨0, 0, none⟩ = some (.iface 109 (.pointer (some bq)))
theorem Listed.below {w w' : World} (h : Listed w) (hb : Below w.heap.size w w') : Listed w' := by
  obtain ⟨h1, bq, h2⟩ := h
  exact ⟨(hb.cell (p := ⟨_, 0, none⟩) (cell_lt h1)).trans h1, bq, (hb.cell (p := ⟨_, 0, none⟩) (cell_lt h2)).trans h2⟩
theorem Listed.low {w w0 : World} (h : Listed w0) (hb : Below w0.heap.size w0 w) : Listed w := h.below hb

set_option maxRecDepth 100000 in
set_option maxHeartbeats 4000000 in
theorem gmatch_any (A : Option Addr) (c : Nat) (l : List Tok) (w : World) (hl : mildT l) (hh : HoldsT w A l) (hg : Listed w) :
    Calls Tryd.prog 10 #[.slice A l.length c] w (TellsI w (matchOf l) (codeOf l)) := by
  obtain ⟨bq, he⟩ := hg.err
  have HM := Lib.hid (fun u hu hv => match_any A c l bq u hl hu hv)
  go_enter Tryd.func10, Tryd.ntmps10
  go_wp2_with fail
  refine (HM.out _ hh he).mono ?_
  rintro e w1 ⟨a, dv, pv, ev, rfl, hb, c2, c4, ⟨hc, rfl, ⟨P, cp, rfl, hP⟩, -⟩ | ⟨hc, p, v, rfl, hv⟩⟩
  · have hm := Lib.hid (matchOf_yes hc)
    have hc2 := Lib.hid hc
    have hn := Lib.hid (brsOf_len hc).1
    clear hc
    go_wp2_with fail
    go_ret2
    exact TellsI.mk P cp _ (by rw [hm.out, hn.out]) hc2.out.symm (by rw [hm.out]; exact hP) hb
  · have hm := Lib.hid (matchOf_no hc)
    have hgt := (hg.below hb).type_
    have HT := Lib.hid (told_any (codeOf l) p v hv w1 hgt)
    clear hc
    go_wp2_with fail
    refine HT.out.mono ?_
    rintro e w2 ⟨rfl, hb2⟩
    go_wp2_with fail
    go_ret2
    exact TellsI.mk none 0 0 (by rw [hm.out]; rfl) rfl (by rw [hm.out]; exact HoldsI.nil _ _) (hb.trans (hb2.mono hb.size))

set_option maxRecDepth 100000 in
set_option maxHeartbeats 4000000 in
theorem gdeep_any (A : Option Addr) (c : Nat) (l : List Tok) (w : World) (hl : mildT l) (hh : HoldsT w A l) (hg : Listed w) :
    Calls Tryd.prog 6 #[.slice A l.length c] w (TellsI w (deepOf l) (codeOf l)) := by
  obtain ⟨bq, he⟩ := hg.err
  have HM := Lib.hid (fun u hu hv => match_any A c l bq u hl hu hv)
  go_enter Tryd.func6, Tryd.ntmps6
  go_wp2_with fail
  refine (HM.out _ hh he).mono ?_
  rintro e w1 ⟨a, dv, pv, ev, rfl, hb, c2, c4, ⟨hc, rfl, -, D, cd, rfl, hD⟩ | ⟨hc, p, v, rfl, hv⟩⟩
  · have hm : Hid (deepOf l = deepsOf (brsOf l)) := Lib.hid (deepOf_yes hc)
    have hc2 := Lib.hid hc
    have hn : Hid ((deepsOf (brsOf l)).length = l.length) := Lib.hid (by rw [deepsOf_len]; exact (brsOf_len hc).2)
    clear hc
    go_wp2_with fail
    go_ret2
    exact TellsI.mk D cd _ (by rw [hm.out, hn.out]) hc2.out.symm (by rw [hm.out]; exact hD) hb
  · have hm := Lib.hid (deepOf_no hc)
    have hgt := (hg.below hb).type_
    have HT := Lib.hid (told_any (codeOf l) p v hv w1 hgt)
    clear hc
    go_wp2_with fail
    refine HT.out.mono ?_
    rintro e w2 ⟨rfl, hb2⟩
    go_wp2_with fail
    go_ret2
    exact TellsI.mk none 0 0 (by rw [hm.out]; rfl) rfl (by rw [hm.out]; exact HoldsI.nil _ _) (hb.trans (hb2.mono hb.size))

theorem holdsT_cells {w : World} {b off : Nat} {l : List Tok} (h : HoldsT w (some ⟨b, off, none⟩) l) (j : Nat) (u : Value) (hj : (tokCells l)[j]? = some u) : w.cell? ((⟨b, off, none⟩ : Addr).add j) = some u := by
  have hlt : j < l.length * 3 := by rw [← tokCells_length]; exact (List.getElem?_eq_some_iff.1 hj).1
  have hk : j / 3 < l.length := by omega
  obtain ⟨b', off', e, c1, c2, c3⟩ := h (j / 3) _ (List.getElem?_eq_getElem hk)
  cases e
  obtain ⟨t1, t2, t3⟩ := tokCells_get l (j / 3) _ (List.getElem?_eq_getElem hk)
  rw [Addr.add_lit]
  have h3 : j = j / 3 * 3 ∨ j = j / 3 * 3 + 1 ∨ j = j / 3 * 3 + 2 := by omega
  rcases h3 with e | e | e
  · rw [e] at hj ⊢
    rw [t1] at hj
    cases hj
    exact c1
  · rw [e] at hj ⊢
    rw [t2] at hj
    cases hj
    exact c2
  · rw [e] at hj ⊢
    rw [t3] at hj
    cases hj
    exact c3

theorem tokCells_one' (l : List Tok) : ∀ u ∈ tokCells l, u.oneCell' = true := by
  intro u hu
  simp only [tokCells, List.mem_flatMap, Tok.cells] at hu
  obtain ⟨x, _, hx⟩ := hu
  simp at hx
  rcases hx with rfl | rfl | rfl <;> rfl

set_option maxRecDepth 100000 in
set_option maxHeartbeats 4000000 in
theorem clone_any (A : Option Addr) (c : Nat) (l : List Tok) (w : World) (hl : l.length ≤ 1000) (hh : HoldsT w A l) :
    Calls Tryd.prog 16 #[.slice A l.length c] w fun e w' => ∃ v, e = .returned v ∧ w'.ownsRow w.heap.size 30 3 v l.length (tokCells l) ∧ Below w.heap.size w w' := by
  obtain ⟨i0, hi0, hz0, hz1, hz2⟩ := info_parts infoTok
  have q22 : ∀ (w : World) (a : Option Addr) (n c n' c' : Nat), (binOp .eql 22 (.slice a n c) (.slice none n' c')).run Tryd.prog w = .ok (.bool a.isNone) w := fun w a n c n' c' => Lib.run_eql_slice_nil w _ _ a n c n' c' Tryd.underlying22
  cases A with
  | none =>
    have hn : l = [] := by
      cases l with
      | nil => rfl
      | cons x l =>
        obtain ⟨b, off, e, _⟩ := hh 0 x rfl
        cases e
    subst hn
    go_enter Tryd.func16, Tryd.ntmps16
    go_wp2_with fail
    go_ret
    exact ⟨_, rfl, World.ownsRow_nil _ _ _ _, Below.refl _ _⟩
  | some ad =>
    have hnews : Hid (∀ j u, (tokCells l)[j]? = some u → (w.alloc (.cells #[] 30)).cell? (ad.add j) = some u) := Lib.hid (fun j u hj => by
      have hlt : 0 < l.length := by
        have := (List.getElem?_eq_some_iff.1 hj).1
        rw [tokCells_length] at this
        omega
      obtain ⟨b, off, e, _⟩ := hh 0 _ (List.getElem?_eq_getElem hlt)
      cases e
      have h1 := holdsT_cells hh j u hj
      exact (World.cell?_alloc_lt _ _ _ (cell_lt h1)).trans h1)
    have hown : Hid ((w.alloc (.cells #[] 30)).ownsRow w.heap.size 30 3 (.slice (some ⟨w.heap.size, 0, none⟩) 0 0) 0 []) := Lib.hid (World.ownsRow_lit w #[] 0 (Nat.le_refl _) (by unfold maxLen; omega) rfl)
    go_enter Tryd.func16, Tryd.ntmps16
    go_wp2_with (at_builtin; go_must (refine wpList_append_own _ rfl _ _ 22 rfl w.heap.size 30 i0 _ 3 40 Tryd.underlying22 hi0 hz0 hz1 hz2 rfl (by decide) _ 0 [] rfl hown.out ad l.length c (tokCells l) rfl (tokCells_length l) hnews.out (tokCells_one' l) (by unfold maxLen; omega) (by omega) (by simp) ?_); go_must (intro v' w2 hown2 hgrow2 _))
    go_ret
    refine ⟨_, rfl, by simpa using hown2, ((Below.refl _ _).alloc (Nat.le_refl _) _).grown hgrow2 (by simp) (fun k hk => by cases hk; exact Nat.le_refl _)⟩
end Go.Proofs.YtlokkdbgihbnhabDoor
