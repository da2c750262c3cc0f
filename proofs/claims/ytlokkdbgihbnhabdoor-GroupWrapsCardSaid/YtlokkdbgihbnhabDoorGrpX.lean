/-
  The first token of a text, its tokens, by the document's program text: where no number, no text in quotes stands there.
-/
import Derived.Test.YtlokkdbgihbnhabDoorProg
import Derived.Test.YtlokkdbgihbnhabDoorReg
import Derived.WalkKit
import Derived.WalkSpells
import Derived.WalkLawsBesides
import Derived.Lib.Hide
import Derived.Lib.MinMax
import Derived.Deep.QuietTactic
import Derived.BigQuiet
import Derived.OwnWalk
import Derived.Deep.AppendLies
import Derived.KernelRfl
import Derived.Laws.Rows
import Derived.Laws.ResultCell
import Derived.Test.YtlokkdbgihbnhabDoorGrpF
import Derived.Test.YtlokkdbgihbnhabDoorGrpW
set_option linter.unusedSimpArgs false
set_option linter.unusedVariables false
namespace Go.Proofs.YtlokkdbgihbnhabDoor
open Go.RowKit

theorem results_row2 {P : Program} {fn : Func} {p u : Tmp} {ty : TypeId} (h : fn.results = #[.cell p ty, .tmp u]) (tmps : Array Value) (w : World) (g : Nat) (t : TypeId) (cs : Array Value) (fr : Nat × Nat) (d : TypeDesc)
    (hp : tmps.getD p undef = .pointer (some ⟨g, 0, none⟩)) (hg : w.heap[g]? = some (.cells cs t fr))
    (hu : P.underlying ty = some d) (hd : (match d with | .struct _ | .array _ _ => true | _ => false) = true) (hi : (P.info? ty).map (·.size) = some cs.size) :
    (results fn tmps).run P w = .ok (.tuple #[.agg cs, tmps.getD u undef]) w := by
  rw [results_cell_tmp h, hp]
  simp [asAddr, run_loadVar_row w g t ty cs fr d hg hu hd hi, Result.andThen]

theorem set3_heap {w : World} {g : Nat} {a b c x y z : Value} {t : TypeId} (h : w.heap[g]? = some (.cells #[a, b, c] t (0, 0))) :
    (((w.setCell ⟨g, 0, none⟩ x).setCell ⟨g, 1, none⟩ y).setCell ⟨g, 2, none⟩ z).heap[g]? = some (.cells #[x, y, z] t (0, 0)) :=
  heap_setCell_same _ g 2 _ t z (heap_setCell_same _ g 1 _ t y (heap_setCell_same _ g 0 _ t x h))

/-- A text whose first token is a name or a sign. -/
def Simple (s : ByteArray) : Prop := 0 < s.size ∧ dBlanks s = 0 ∧ gClass (gFirst s).1 ≠ 6 ∧ byte0 s ≠ 39 ∧ gClass (gFirst s).1 ≠ 5 ∧ ¬ (48 ≤ byte0 s ∧ byte0 s ≤ 57) ∧ dWord s ≤ 20 ∧ dWord s ≤ s.size ∧ (gFirst s).2 ≤ s.size ∧ (0 < dWord s ∨ 0 < (gFirst s).2)

set_option maxRecDepth 100000 in
set_option maxHeartbeats 4000000 in
theorem first_any (s : ByteArray) (w : World) (hs : s.size ≤ 1000000) (hp : Simple s) :
    Calls Tryd.prog 17 #[.string s] w fun r w' => r = .returned (.tuple #[(dFirst s).val, .bool true]) ∧ Below w.heap.size w w' := by
  obtain ⟨h0, h1, h2, h3, h4, h5, h6, h7, h8, h9⟩ := hp
  have hd : dFirst s = if 0 < dWord s then ⟨5, s.extract 0 (dWord s), noText⟩ else ⟨dKind (gClass (gFirst s).1), s.extract 0 (gFirst s).2, (gFirst s).1⟩ := by
    unfold dFirst
    rw [if_neg (by omega), if_neg h2, if_neg h3, if_neg h4, if_neg h5, if_neg (by omega)]
    split
    · rfl
    · rw [if_pos (by omega)]
  have HG := Lib.hid (fun u => gfirst_any s u (by unfold maxLen; omega))
  have HC := Lib.hid (class_any (gFirst s).1)
  have HB := Lib.hid (fun u => blanks_any s u hs)
  have HW := Lib.hid (fun u => word_any s u hs)
  have HD := Lib.hid (isDigit_any (s.data.toList.headD 0))
  have HK := Lib.hid (kind_any (gClass (gFirst s).1))
  have hbyte : s[0] = s.data.toList.headD 0 := by
    have e : s.data.toList = s[0] :: s.data.toList.drop 1 := by
      rw [← byte_get s 0 h0]
      exact List.drop_eq_getElem_cons (show 0 < s.data.toList.length from h0)
    rw [e]
    rfl
  rw [hd]
  unfold byte0 at h3 h5
  rw [h1] at HB
  have hdig : isDig (s.data.toList.headD 0) = false := by
    generalize s.data.toList.headD 0 = z at h5
    unfold isDig
    by_cases h : 48 ≤ z.toNat
    · have : ¬ z.toNat ≤ 57 := fun h' => h5 ⟨h, h'⟩
      simp [this]
    · simp [h]
  rw [hdig] at HD
  rw [← hbyte] at HD h3
  clear hbyte hdig hd h5 h1
  obtain ⟨g, hg⟩ : ∃ g, (gFirst s).1 = g := ⟨_, rfl⟩
  obtain ⟨n, hn⟩ : ∃ n, (gFirst s).2 = n := ⟨_, rfl⟩
  obtain ⟨c, hc⟩ : ∃ c, gClass g = c := ⟨_, rfl⟩
  obtain ⟨d, hd⟩ : ∃ d, dWord s = d := ⟨_, rfl⟩
  rw [hn] at HG h8 h9 ⊢
  rw [hg] at HG HC HK h2 h4 ⊢
  rw [hc] at HC HK h2 h4 ⊢
  rw [hd] at HW h6 h7 h9 ⊢
  clear hg hn hc hd
  have q1 : (c == 6) = false := by simpa using h2
  have q2 : (c == 5) = false := by simpa using h4
  have q3 : ((s[0].toNat : Int) == 39) = false := by simp; omega
  have q4 := empty_not (u := s) (fun e => by rw [e] at h0; simp at h0)
  go_enter Tryd.func17, Tryd.ntmps17
  go_wp2_with fail
  refine (HG.out _).mono ?_
  rintro r w1 ⟨rfl, hb⟩
  rw [World.size_alloc] at hb
  have n1 : w1.heap[w.heap.size]? = some (.cells #[.int .i64 0, .string ByteArray.empty, .string ByteArray.empty] 30 (0, 0)) := (hb.block _ (by simp)).trans (heap_alloc_new w _)
  have B1 := Lib.hid (((Below.refl w.heap.size w).alloc (Nat.le_refl _) (.cells #[.int .i64 0, .string ByteArray.empty, .string ByteArray.empty] 30)).trans (hb.mono (by omega)))
  have l1 := (Array.getElem?_eq_some_iff.1 n1).1
  clear hb HG
  go_wp2_with fail
  refine (HC.out _).mono ?_
  rintro r w2 ⟨rfl, hb⟩
  have n2 := (hb.block _ l1).trans n1
  have B2 := Lib.hid (B1.out.trans (hb.mono (by omega)))
  have l2 := (Array.getElem?_eq_some_iff.1 n2).1
  clear hb HC B1 n1 l1
  go_wp2_with fail
  refine (HB.out _).mono ?_
  rintro r w3 ⟨rfl, h⟩
  subst h
  clear HB
  go_wp2_with fail
  refine (HD.out _).mono ?_
  rintro r w4 ⟨rfl, h⟩
  subst h
  clear HD
  go_wp2_with fail
  refine (HW.out _).mono ?_
  rintro r w5 ⟨rfl, h⟩
  subst h
  have q5 : ¬ (20 : Int) < (d : Int) := by omega
  go_wp2_with fail
  refine (HW.out _).mono ?_
  rintro r w6 ⟨rfl, h⟩
  subst h
  have k0 : w6.cell? ⟨w.heap.size, 0, none⟩ = some (.int .i64 0) := by simp [World.cell?, n2]
  have k1 : w6.cell? ⟨w.heap.size, 1, none⟩ = some (.string ByteArray.empty) := by simp [World.cell?, n2]
  have k2 : w6.cell? ⟨w.heap.size, 2, none⟩ = some (.string ByteArray.empty) := by simp [World.cell?, n2]
  have z0 : w6.frozen? ⟨w.heap.size, 0, none⟩ = false := frozen_of_row w6 _ 0 _ _ n2
  have z1 : w6.frozen? ⟨w.heap.size, 1, none⟩ = false := frozen_of_row w6 _ 1 _ _ n2
  have z2 : w6.frozen? ⟨w.heap.size, 2, none⟩ = false := frozen_of_row w6 _ 2 _ _ n2
  by_cases hd0 : 0 < d
  · have q6 : (0 : Int) < (d : Int) := by omega
    have q7 : (d : Int) ≤ (s.size : Int) := by omega
    go_wp2_with fail
    refine (HW.out _).mono ?_
    rintro r w7 ⟨rfl, h⟩
    subst h
    go_wp2_with fail
    refine bodyPost_ret (results_row2 rfl _ _ w.heap.size 30 #[.int .i64 5, .string (s.extract 0 d), .string ByteArray.empty] (0, 0) _ rfl (set3_heap n2) Tryd.underlying30 rfl (by kernel_rfl)) rfl ?_
    exact ⟨rfl, ((B2.out.setCell (p := ⟨w.heap.size, 0, none⟩) (Nat.le_refl _) _).setCell (p := ⟨w.heap.size, 1, none⟩) (Nat.le_refl _) _).setCell (p := ⟨w.heap.size, 2, none⟩) (Nat.le_refl _) _⟩
  · have q6 : ¬ (0 : Int) < (d : Int) := by omega
    have q7 : (0 : Int) < (n : Int) := by omega
    have q8 : (n : Int) ≤ (s.size : Int) := by omega
    go_wp2_with fail
    refine wp_region_ord (S := fun _ => True) [0, 2, 3, 4, 5] [1, 6, 7, 8] (by kernel_rfl) (by kernel_rfl) (fun _ _ _ _ _ h => h) trivial ?_
    simp only [pick, List.filterMap_cons, List.filterMap_nil, List.getElem?_toArray, List.getElem?_cons_zero, List.getElem?_cons_succ]
    repeat (refine wpHead_step (v := ?_) rfl ?_ ?_; rotate_left; (focus (rintro w1 _; go_simp; try with_reducible rfl)); simp only [Act.put, List.setIfInBounds_toArray, List.set_cons_zero, List.set_cons_succ])
    refine wpHead_nil ?_
    refine wpTail_step rfl (fun K hK => ?_)
    go_wp2_with fail
    refine (HK.out _).mono ?_
    rintro r w7 ⟨rfl, rfl⟩
    go_wp2_with fail
    refine hK _ _ trivial ?_
    clear hK K
    try simp only [Act.put, List.setIfInBounds_toArray, List.set_cons_zero, List.set_cons_succ]
    refine wpTail_step rfl (fun K hK => ?_)
    go_wp2_with fail
    refine hK _ _ trivial ?_
    clear hK K
    try simp only [Act.put, List.setIfInBounds_toArray, List.set_cons_zero, List.set_cons_succ]
    refine wpTail_step rfl (fun K hK => ?_)
    go_wp2_with fail
    refine hK _ _ trivial ?_
    clear hK K
    try simp only [Act.put, List.setIfInBounds_toArray, List.set_cons_zero, List.set_cons_succ]
    refine wpTail_step rfl (fun K hK => ?_)
    go_wp2_with fail
    refine hK _ _ trivial ?_
    clear hK K
    try simp only [Act.put, List.setIfInBounds_toArray, List.set_cons_zero, List.set_cons_succ]
    refine wpTail_nil ?_
    go_wp2_with fail
    refine bodyPost_ret (results_row2 rfl _ _ w.heap.size 30 #[.int .i64 (dKind c), .string (s.extract 0 n), .string g] (0, 0) _ rfl (set3_heap n2) Tryd.underlying30 rfl (by kernel_rfl)) rfl ?_
    exact ⟨rfl, (((B2.out.setCell (p := ⟨w.heap.size, 0, none⟩) (Nat.le_refl _) _).setCell (p := ⟨w.heap.size, 1, none⟩) (Nat.le_refl _) _).setCell (p := ⟨w.heap.size, 2, none⟩) (Nat.le_refl _) _).drew⟩
end Go.Proofs.YtlokkdbgihbnhabDoor
