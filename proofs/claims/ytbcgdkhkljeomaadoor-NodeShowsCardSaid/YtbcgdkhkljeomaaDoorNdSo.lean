/-
  The walk of 'some': the first trees, cut.
-/
import Derived.Test.YtbcgdkhkljeomaaDoorProg
import Derived.Test.YtbcgdkhkljeomaaDoorReg
import Derived.WalkKit
import Derived.WalkSpells
import Derived.WalkLawsBesides
import Derived.Lib.Hide
import Derived.Lib.MinMax
import Derived.Deep.QuietTactic
import Derived.BigQuiet
import Derived.OwnWalk
import Derived.Deep.AppendLies
import Derived.KernelRfl
import Derived.Test.YtbcgdkhkljeomaaDoorNdU
import Derived.Test.YtbcgdkhkljeomaaDoorNdJo
set_option linter.unusedSimpArgs false
set_option linter.unusedVariables false
namespace Go.Proofs.YtbcgdkhkljeomaaDoor
open Go.RowKit

abbrev tNs : TypeId := 23
theorem infoTree : (Tryd.prog.info? 23).map (fun i => (i.zero, i.size, i.bytes)) = some (some (.slice none 0 0), 1, 24) := by kernel_rfl

abbrev TV := List (Value × List (Nd × Value))
def treesOf (M : TV) : List (List Nd) := M.map fun p => p.2.map Prod.fst
def someN (l : List (List Nd)) : List (List Nd) := (l.take 4).map fewN
/-- A slice of trees of one's own. -/
structure HasTs (w : World) (base : Nat) (v : Value) (M : TV) : Prop where
  row : w.ownsRow base tNs 1 v M.length (M.map Prod.fst)
  each : ∀ p ∈ M, HasN w base p.1 p.2
theorem HasTs.nil (w : World) (base : Nat) : HasTs w base (.slice none 0 0) [] := ⟨World.ownsRow_nil _ _ _ _, fun p hp => by simp at hp⟩
theorem HasTs.below {w w' : World} {base : Nat} {v : Value} {M : TV} (h : HasTs w base v M) (hb : Below w.heap.size w w') : HasTs w' base v M := ⟨own_below h.row hb, fun p hp => (h.each p hp).below hb⟩
theorem HasTs.mono {w : World} {base b : Nat} {v : Value} {M : TV} (h : HasTs w base v M) (hb : b ≤ base) : HasTs w b v M := ⟨own_mono h.row hb, fun p hp => (h.each p hp).mono hb⟩
theorem HasTs.holds {w : World} {base : Nat} {v : Value} {M : TV} (h : HasTs w base v M) : ∃ A c, v = .slice A M.length c ∧ HoldsTs w A (treesOf M) ∧ M.length ≤ c := by
  rcases h.row.2 with ⟨rfl, h0⟩ | ⟨g, cap, cur, rfl, _, _, hcap, _⟩
  · have : M = [] := List.eq_nil_of_length_eq_zero h0
    subst this
    exact ⟨none, 0, rfl, HoldsTs.nil _ _, Nat.le_refl _⟩
  · refine ⟨some ⟨g, 0, none⟩, cap, rfl, fun k t ht => ?_, hcap⟩
    unfold treesOf at ht
    rw [List.getElem?_map] at ht
    obtain ⟨p, hp, rfl⟩ := Option.map_eq_some_iff.1 ht
    have hlt : k < M.length := (List.getElem?_eq_some_iff.1 hp).1
    have hrow := h.row
    have d0 := (hrow.cellAt k (by omega)).trans (show (M.map Prod.fst)[k]? = some p.1 by rw [List.getElem?_map, hp]; rfl)
    obtain ⟨B, c, e, hH, hc⟩ := (h.each p (List.mem_of_getElem? hp)).holds
    rw [e] at d0
    refine ⟨g, 0, rfl, B, c, ?_, hH, by rw [List.length_map]; exact hc⟩
    rw [List.length_map, Nat.zero_add]
    exact d0
/-- A tree is appended. -/
theorem push_tree {W : World} {base : Nat} {v : Value} {M : TV} {u : Value} {L : List (Nd × Value)} {g : Nat} (hg : W.heap[g]? = some (.cells #[u] tNs (0, 0))) (h : HasTs W base v M) (hu : HasN W base u L) (hl : M.length ≤ 1000000) (hbase : base ≤ W.heap.size) :
    ∃ A c w', (Builtin.append_ #[22, 22] 22 #[v, .slice (some ⟨g, 0, none⟩) 1 1]).run Tryd.prog W = .ok (.slice A (M.length + 1) c) w' ∧ HasTs w' base (.slice A (M.length + 1) c) (M ++ [(u, L)]) ∧ W.grownBy w' v.ownBlock := by
  obtain ⟨i0, hi0, hz0, hz1, hz2⟩ := info_parts infoTree
  obtain ⟨B, cB, eu, _, _⟩ := hu.holds
  obtain ⟨v', w', hr, ho, hgr, _⟩ := run_append_own (P := Tryd.prog) W base 22 22 tNs i0 _ 1 24 Tryd.underlying22 hi0 hz0 hz1 hz2 rfl (by decide) v M.length (M.map Prod.fst) h.row ⟨g, 0, none⟩ 1 1 [u] rfl
    (fun j y hj => by
      match j, hj with
      | 0, hj => simp at hj; subst hj; rw [addr_add0]; simp [World.cell?, hg]) (by rw [eu]; simp [Value.oneCell']) (by unfold maxLen; omega) (by omega) hbase
  have hk : HasTs w' base v' (M ++ [(u, L)]) := by
    refine ⟨by rw [List.length_append, List.map_append]; exact ho, fun p hp => ?_⟩
    have keep : ∀ {y : Value} {K : List (Nd × Value)}, HasN W base y K → HasN w' base y K := fun hy => ⟨hy.row.kept hgr (own_apart hy.row h.row (by decide)), fun q hq => (hy.kids q hq).kept hgr (own_apart (hy.kids q hq) h.row (by decide))⟩
    rcases List.mem_append.1 hp with hp | hp
    · exact keep (h.each p hp)
    · rw [List.mem_singleton.1 hp]
      exact keep hu
  obtain ⟨A, c, rfl, _, _⟩ := hk.holds
  rw [List.length_append, List.length_singleton] at hr hk
  exact ⟨A, c, w', hr, hk, hgr⟩
theorem someN_snoc {l : List (List Nd)} {i : Nat} {t : List Nd} (h : l[i]? = some t) (hi : i < 4) : someN (l.take i) ++ [fewN t] = someN (l.take (i + 1)) := by
  unfold someN
  rw [List.take_take, List.take_take, Nat.min_eq_right (by omega), Nat.min_eq_right (by omega), take_one h, List.map_append]
  rfl
theorem someN_full {l : List (List Nd)} {i : Nat} (h : 4 ≤ i ∨ l.length ≤ i) : someN (l.take i) = someN l := by
  unfold someN
  rw [List.take_take]
  rcases h with h | h
  · rw [Nat.min_eq_left h]
  · congr 1
    by_cases h2 : 4 ≤ i
    · rw [Nat.min_eq_left h2]
    · rw [Nat.min_eq_right (by omega), List.take_of_length_le h, List.take_of_length_le (by omega)]

set_option maxRecDepth 100000 in
set_option maxHeartbeats 8000000 in
theorem some_any (l : List (List Nd)) (A : Option Addr) (c : Nat) (w : World) (hh : HoldsTs w A l) (hl : l.length ≤ maxLen) (ht : ∀ t ∈ l, t.length ≤ maxLen ∧ ∀ x ∈ t, x.text.size ≤ maxLen ∧ x.kids.length ≤ maxLen) :
    Calls Tryd.prog 10 #[.slice A l.length c] w fun e w' => ∃ v M, e = .returned v ∧ treesOf M = someN l ∧ HasTs w' w.heap.size v M ∧ Below w.heap.size w w' := by
  have HH := Lib.hid hh
  have HT := Lib.hid ht
  clear hh ht
  unfold maxLen at hl
  go_enter Tryd.func10, Tryd.ntmps10
  go_wp2_with fail
  go_loopw [3, 4] (fun v s wr => ∃ (i : Nat) (M : TV), s = .int .i64 i ∧ i ≤ l.length ∧ i ≤ 4 ∧ Hid (M.length = i) ∧ Hid (treesOf M = someN (l.take i)) ∧ Hid (HasTs wr w.heap.size v M) ∧ Hid (Below w.heap.size w wr)) (fun _ s _ => 4 - (intOf s).toNat)
  case atStart => exact ⟨0, [], rfl, Nat.zero_le _, by omega, Lib.hid rfl, Lib.hid (by simp [someN, treesOf]), Lib.hid (HasTs.nil _ _), Lib.hid (Below.refl _ _)⟩
  case round =>
    obtain ⟨i, M, rfl, hi, hi4, HL, HM, HN, HB⟩ := hrel
    by_cases hlt : i < l.length
    · by_cases h4 : i < 4
      · have h4' : (i : Int) < 4 := by omega
        have g := List.getElem?_eq_getElem hlt
        have hmem := List.getElem_mem hlt
        have HM2 : Hid (treesOf M ++ [fewN l[i]] = someN (l.take (i + 1))) := Lib.hid (by rw [HM.out]; exact someN_snoc g h4)
        generalize l[i] = t at *
        obtain ⟨b, off, rfl, B, c2, c0, hHN, hc⟩ := HH.out i t g
        obtain ⟨h5, h6⟩ := HT.out t hmem
        have d0 := (HB.out.cell (p := ⟨b, _, none⟩) (cell_lt c0)).trans c0
        have HFW := Lib.hid (few_any t B c2 wr (hHN.below HB.out) h5 (fun x hx => (h6 x hx).1) (fun x hx => (h6 x hx).2))
        have hsz := HB.out.size
        have HSV : ∃ A5 c5, u3 = .slice A5 M.length c5 := by
          obtain ⟨A5, c5, e, _⟩ := HN.out.holds
          exact ⟨A5, c5, e⟩
        obtain ⟨A5, c5, rfl⟩ := HSV
        clear c0 hHN g hmem h5 h6
        go_wp2_with fail
        refine HFW.out.mono ?_
        rintro e w2 ⟨v2, L2, rfl, hm2, hN2, hb2⟩
        obtain ⟨A7, c7, rfl, _, _⟩ := hN2.holds
        have hz2 := hb2.size
        have hBA : Below w2.heap.size w2 (w2.alloc (.cells #[.slice A7 L2.length c7] tNs)) := (Below.refl _ w2).alloc (Nat.le_refl _) _
        obtain ⟨A9, c9, w9, hrun, hN9, hgr9⟩ := push_tree (g := w2.heap.size) (heap_alloc_new w2 _) ((HN.out.below hb2).below hBA) ((hN2.mono hsz).below hBA) (by rw [HL.out]; omega) (by simp; omega)
        have hB9 : Below w.heap.size w w9 := (((HB.out.trans (hb2.mono hsz)).alloc (by omega) _).grown hgr9 (by simp; omega) (fun kk hkk => (HN.out.row.lt kk hkk).1))
        have HML : Hid (treesOf (M ++ [(Value.slice A7 L2.length c7, L2)]) = someN (l.take (i + 1))) := Lib.hid (by
          rw [← HM2.out, ← hm2]
          unfold treesOf
          rw [List.map_append]
          rfl)
        have HL9 : Hid ((M ++ [(Value.slice A7 L2.length c7, L2)]).length = i + 1) := Lib.hid (by rw [List.length_append, HL.out]; rfl)
        have HN9 := Lib.hid hN9
        have HB9 := Lib.hid hB9
        clear hN9 hB9 hgr9 hBA hN2 hb2 hm2
        go_wp2_with (at_builtin; go_must (refine wpList_append_run rfl _ _ 22 22 rfl rfl rfl hrun ?_))
        go_roundw
        case rel => exact ⟨i + 1, _, by go_num, by omega, by omega, HL9, HML, HN9, HB9⟩
        case measure => simp [intOf]; omega
      · obtain rfl : i = 4 := by omega
        have HML : Hid (treesOf M = someN l) := Lib.hid (by rw [HM.out]; exact someN_full (.inl (Nat.le_refl _)))
        go_wp2_with fail
        go_ret
        exact ⟨_, M, rfl, HML.out, HN.out, HB.out⟩
    · obtain rfl : i = l.length := by omega
      have HML : Hid (treesOf M = someN l) := Lib.hid (by rw [HM.out]; exact someN_full (.inr (Nat.le_refl _)))
      go_wp2_with fail
      go_ret
      exact ⟨_, M, rfl, HML.out, HN.out, HB.out⟩
end Go.Proofs.YtbcgdkhkljeomaaDoor
