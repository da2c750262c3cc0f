/-
  The first token of a text, a text's tokens, by the document's program text.
-/
import Derived.Test.YtflpihedhccdfaaGreatDoorProg
import Derived.Test.YtflpihedhccdfaaGreatDoorReg
import Derived.WalkKit
import Derived.WalkSpells
import Derived.WalkLawsBesides
import Derived.Lib.Hide
import Derived.Lib.MinMax
import Derived.Deep.QuietTactic
import Derived.BigQuiet
import Derived.OwnWalk
import Derived.Deep.AppendLies
import Derived.KernelRfl
import Derived.Laws.Rows
import Derived.Laws.ResultCell
import Derived.Test.YtflpihedhccdfaaGreatDoorRv2
import Derived.Laws.OwnMore
import Derived.Test.YtflpihedhccdfaaGreatDoorRw7
import Derived.ArgAppend
set_option linter.unusedSimpArgs false
set_option linter.unusedVariables false
namespace Go.Proofs.YtflpihedhccdfaaGreatDoor.Rf
open Go.RowKit

theorem results_row2 {P : Program} {fn : Func} {p u : Tmp} {ty : TypeId} (h : fn.results = #[.cell p ty, .tmp u]) (tmps : Array Value) (w : World) (g : Nat) (t : TypeId) (cs : Array Value) (fr : Nat × Nat) (d : TypeDesc)
    (hp : tmps.getD p undef = .pointer (some ⟨g, 0, none⟩)) (hg : w.heap[g]? = some (.cells cs t fr))
    (hu : P.underlying ty = some d) (hd : (match d with | .struct _ | .array _ _ => true | _ => false) = true) (hi : (P.info? ty).map (·.size) = some cs.size) :
    (results fn tmps).run P w = .ok (.tuple #[.agg cs, tmps.getD u undef]) w := by
  rw [results_cell_tmp h, hp]
  simp [asAddr, run_loadVar_row w g t ty cs fr d hg hu hd hi, Result.andThen]
theorem quoted_le (s : ByteArray) (h : 0 < s.size) : dQuoted s ≤ s.size := by
  by_cases hq : dQuoted s = 0
  · omega
  · exact (dQuoted_take hq).2.2 h

set_option maxRecDepth 100000 in
set_option maxHeartbeats 16000000 in
theorem first_full (s : ByteArray) (w : World) (hs : s.size ≤ 1000000) (h0 : 0 < s.size) :
    Calls Tryz.prog 36 #[.string s] w fun r w' => r = .returned (.tuple #[.agg #[.int .i64 (dFirst s).kind, .string (dFirst s).text, .string (dFirst s).glyph], .bool true]) ∧ Below w.heap.size w w' := by
  have HE : Hid (dFirst s = if 0 < dBlanks s then ⟨1, s.extract 0 (dBlanks s), noText⟩ else
      if gClass (gFirst s).1 = 6 then ⟨2, s, (gFirst s).1⟩ else
      if byte0 s = 39 then (if dQuoted s = 0 then ⟨10, s, noText⟩ else ⟨4, s.extract 0 (dQuoted s), noText⟩) else
      if gClass (gFirst s).1 = 5 then dNumber s (gFirst s).2 else
      if 48 ≤ byte0 s ∧ byte0 s ≤ 57 then dNumber s 0 else
      if 20 < dWord s then ⟨10, s.extract 0 (dWord s), noText⟩ else
      if 0 < dWord s then ⟨5, s.extract 0 (dWord s), noText⟩ else
      if 0 < (gFirst s).2 then ⟨dKind (gClass (gFirst s).1), s.extract 0 (gFirst s).2, (gFirst s).1⟩ else ⟨10, s.extract 0 (dStep s), noText⟩) := Lib.hid rfl
  have HG := Lib.hid (fun u => gfirst_any s u (by unfold maxLen; omega))
  have HC := Lib.hid (class_any (gFirst s).1)
  have HB := Lib.hid (fun u => blanks_any s u hs)
  have HW := Lib.hid (fun u => word_any s u hs)
  have HQ := Lib.hid (fun u => quoted_any s u hs)
  have HS := Lib.hid (fun u => step_any s u hs h0)
  have hgn := gFirst_size s
  have HN : Hid (∀ (m : Nat) (u : World), m ≤ s.size → Calls Tryz.prog 49 #[.string s, .int .i64 (m : Int)] u fun r w' => r = .returned (.agg #[.int .i64 (dNumber s m).kind, .string (dNumber s m).text, .string (dNumber s m).glyph]) ∧ Below u.heap.size u w') := Lib.hid (fun m u h => number_any s m u hs h)
  have hbyte : s[0] = s.data.toList.headD 0 := by
    have e : s.data.toList = s[0] :: s.data.toList.drop 1 := by
      rw [← byte_get s 0 h0]
      exact List.drop_eq_getElem_cons (show 0 < s.data.toList.length from h0)
    rw [e]
    rfl
  have HD := Lib.hid (isDigit_any (s.data.toList.headD 0))
  have hb0 : byte0 s = s[0].toNat := by rw [hbyte]; rfl
  have hdig : isDig (s.data.toList.headD 0) = decide (48 ≤ byte0 s ∧ byte0 s ≤ 57) := by
    unfold isDig byte0
    rw [Bool.eq_iff_iff]
    simp
  rw [← hbyte] at HD hdig
  rw [hdig] at HD
  rw [hb0] at HE HD
  have hble : dBlanks s ≤ s.size := blanks_le s
  have hwle : dWord s ≤ s.size := word_le s
  have hqle : dQuoted s ≤ s.size := quoted_le s h0
  have hsle := (dStep_range h0).2
  have HKd := Lib.hid (kind_any (gClass (gFirst s).1))
  clear hbyte hdig hb0
  obtain ⟨g, hg⟩ : ∃ g, (gFirst s).1 = g := ⟨_, rfl⟩
  obtain ⟨n, hn⟩ : ∃ n, (gFirst s).2 = n := ⟨_, rfl⟩
  obtain ⟨c, hc⟩ : ∃ c, gClass g = c := ⟨_, rfl⟩
  rw [hn] at HE HG hgn
  rw [hg] at HE HG HC HKd
  rw [hc] at HE HC HKd
  generalize dBlanks s = bl at *
  generalize dWord s = d at *
  generalize dQuoted s = q at *
  generalize dStep s = st at *
  clear hg hn hc
  have q4 := empty_not (u := s) (fun e => by rw [e] at h0; simp at h0)
  have z0 : (0 : Int) < (s.size : Int) := by omega
  have e1 : (bl : Int) ≤ (s.size : Int) := by omega
  have e2 : (d : Int) ≤ (s.size : Int) := by omega
  have e3 : (q : Int) ≤ (s.size : Int) := by omega
  have e4 : (n : Int) ≤ (s.size : Int) := by omega
  have e5 : (st : Int) ≤ (s.size : Int) := by omega
  go_enter Tryz.func36, Tryz.ntmps36
  go_wp2_with fail
  refine (HG.out _).mono ?_
  rintro r w1 ⟨rfl, hb⟩
  rw [World.size_alloc] at hb
  have n1 : w1.heap[w.heap.size]? = some (.cells #[.int .i64 0, .string ByteArray.empty, .string ByteArray.empty] 55 (0, 0)) := (hb.block _ (by simp)).trans (heap_alloc_new w _)
  have B1 := Lib.hid (((Below.refl w.heap.size w).alloc (Nat.le_refl _) (.cells #[.int .i64 0, .string ByteArray.empty, .string ByteArray.empty] 55)).trans (hb.mono (by omega)))
  have l1 := (Array.getElem?_eq_some_iff.1 n1).1
  clear hb HG
  go_wp2_with fail
  refine (HC.out _).mono ?_
  rintro r w2 ⟨rfl, hb⟩
  have n2 := (hb.block _ l1).trans n1
  have B2 := Lib.hid (B1.out.trans (hb.mono (by omega)))
  have l2 := (Array.getElem?_eq_some_iff.1 n2).1
  clear hb HC B1 n1 l1
  go_wp2_with fail
  refine (HB.out _).mono ?_
  rintro r w3 ⟨rfl, h⟩
  subst h
  have k0 : w3.cell? ⟨w.heap.size, 0, none⟩ = some (.int .i64 0) := by simp [World.cell?, n2]
  have k1 : w3.cell? ⟨w.heap.size, 1, none⟩ = some (.string ByteArray.empty) := by simp [World.cell?, n2]
  have k2 : w3.cell? ⟨w.heap.size, 2, none⟩ = some (.string ByteArray.empty) := by simp [World.cell?, n2]
  have z0 : w3.frozen? ⟨w.heap.size, 0, none⟩ = false := frozen_of_row w3 _ 0 _ _ n2
  have z1 : w3.frozen? ⟨w.heap.size, 1, none⟩ = false := frozen_of_row w3 _ 1 _ _ n2
  have z2 : w3.frozen? ⟨w.heap.size, 2, none⟩ = false := frozen_of_row w3 _ 2 _ _ n2
  by_cases hbl : 0 < bl
  · have p1 : (0 : Int) < (bl : Int) := by omega
    go_wp2_with fail
    refine (HB.out _).mono ?_
    rintro r w4 ⟨rfl, h⟩
    subst h
    go_wp2_with fail
    refine bodyPost_ret (results_row2 rfl _ _ w.heap.size 55 #[.int .i64 1, .string (s.extract 0 bl), .string ByteArray.empty] (0, 0) _ rfl (set3 n2) Tryz.underlying55 rfl (by kernel_rfl)) rfl ?_
    exact ⟨by rw [HE.out, if_pos hbl]; rfl, ((B2.out.setCell (p := ⟨w.heap.size, 0, none⟩) (Nat.le_refl _) _).setCell (p := ⟨w.heap.size, 1, none⟩) (Nat.le_refl _) _).setCell (p := ⟨w.heap.size, 2, none⟩) (Nat.le_refl _) _⟩
  · have p1 : ¬ (0 : Int) < (bl : Int) := by omega
    have hE := HE.out
    rw [if_neg hbl] at hE
    have HE1 := Lib.hid hE
    clear hE HE hbl
    by_cases h6 : c = 6
    · have p2 : (c == 6) = true := by simpa using h6
      have HE2 := Lib.hid (HE1.out.trans (if_pos h6))
      clear h6
      go_wp2_with fail
      refine bodyPost_ret (results_row2 rfl _ _ w.heap.size 55 #[.int .i64 2, .string s, .string g] (0, 0) _ rfl (set3 n2) Tryz.underlying55 rfl (by kernel_rfl)) rfl ?_
      exact ⟨by rw [HE2.out]; rfl, ((B2.out.setCell (p := ⟨w.heap.size, 0, none⟩) (Nat.le_refl _) _).setCell (p := ⟨w.heap.size, 1, none⟩) (Nat.le_refl _) _).setCell (p := ⟨w.heap.size, 2, none⟩) (Nat.le_refl _) _⟩
    · have p2 : (c == 6) = false := by simpa using h6
      have HE2 := Lib.hid (HE1.out.trans (if_neg h6))
      clear h6 HE1
      by_cases h39 : s[0].toNat = 39
      · have p3 : ((s[0].toNat : Int) == 39) = true := by rw [h39]; rfl
        have HE3 := Lib.hid (HE2.out.trans (if_pos h39))
        clear h39 HE2
        go_wp2_with fail
        refine (HQ.out _).mono ?_
        rintro r w4 ⟨rfl, h⟩
        subst h
        by_cases hq : q = 0
        · have p4 : ((q : Int) == 0) = true := by rw [hq]; rfl
          have HE4 := Lib.hid (HE3.out.trans (if_pos hq))
          clear hq
          go_wp2_with fail
          refine bodyPost_ret (results_row2 rfl _ _ w.heap.size 55 #[.int .i64 10, .string s, .string ByteArray.empty] (0, 0) _ rfl (set3 n2) Tryz.underlying55 rfl (by kernel_rfl)) rfl ?_
          exact ⟨by rw [HE4.out]; rfl, ((B2.out.setCell (p := ⟨w.heap.size, 0, none⟩) (Nat.le_refl _) _).setCell (p := ⟨w.heap.size, 1, none⟩) (Nat.le_refl _) _).setCell (p := ⟨w.heap.size, 2, none⟩) (Nat.le_refl _) _⟩
        · have p4 : ((q : Int) == 0) = false := by rw [beq_eq_false_iff_ne]; omega
          have HE4 := Lib.hid (HE3.out.trans (if_neg hq))
          clear hq
          go_wp2_with fail
          refine (HQ.out _).mono ?_
          rintro r w5 ⟨rfl, h⟩
          subst h
          go_wp2_with fail
          refine bodyPost_ret (results_row2 rfl _ _ w.heap.size 55 #[.int .i64 4, .string (s.extract 0 q), .string ByteArray.empty] (0, 0) _ rfl (set3 n2) Tryz.underlying55 rfl (by kernel_rfl)) rfl ?_
          exact ⟨by rw [HE4.out]; rfl, ((B2.out.setCell (p := ⟨w.heap.size, 0, none⟩) (Nat.le_refl _) _).setCell (p := ⟨w.heap.size, 1, none⟩) (Nat.le_refl _) _).setCell (p := ⟨w.heap.size, 2, none⟩) (Nat.le_refl _) _⟩
      · have p3 : ((s[0].toNat : Int) == 39) = false := by rw [beq_eq_false_iff_ne]; omega
        have HE3 := Lib.hid (HE2.out.trans (if_neg h39))
        clear h39 HE2 HQ
        by_cases h5 : c = 5
        · have p4 : (c == 5) = true := by simpa using h5
          have HE4 := Lib.hid (HE3.out.trans (if_pos h5))
          clear h5 HE3
          have HNw := Lib.hid (HN.out n w3 hgn)
          go_wp2_with fail
          refine HNw.out.mono ?_
          rintro r w4 ⟨rfl, hb⟩
          have n4 := (hb.block _ l2).trans n2
          have B4 := Lib.hid (B2.out.trans (hb.mono (by omega)))
          clear hb k0 k1 k2 z0 z1 z2
          generalize dNumber s n = x at *
          have k0 : w4.cell? ⟨w.heap.size, 0, none⟩ = some (.int .i64 0) := by simp [World.cell?, n4]
          have k1 : w4.cell? ⟨w.heap.size, 1, none⟩ = some (.string ByteArray.empty) := by simp [World.cell?, n4]
          have k2 : w4.cell? ⟨w.heap.size, 2, none⟩ = some (.string ByteArray.empty) := by simp [World.cell?, n4]
          have z0 : w4.frozen? ⟨w.heap.size, 0, none⟩ = false := frozen_of_row w4 _ 0 _ _ n4
          have z1 : w4.frozen? ⟨w.heap.size, 1, none⟩ = false := frozen_of_row w4 _ 1 _ _ n4
          have z2 : w4.frozen? ⟨w.heap.size, 2, none⟩ = false := frozen_of_row w4 _ 2 _ _ n4
          go_wp2_with fail
          refine bodyPost_ret (results_row2 rfl _ _ w.heap.size 55 #[.int .i64 x.kind, .string x.text, .string x.glyph] (0, 0) _ rfl (set3 n4) Tryz.underlying55 rfl (by kernel_rfl)) rfl ?_
          exact ⟨by rw [HE4.out]; rfl, ((B4.out.setCell (p := ⟨w.heap.size, 0, none⟩) (Nat.le_refl _) _).setCell (p := ⟨w.heap.size, 1, none⟩) (Nat.le_refl _) _).setCell (p := ⟨w.heap.size, 2, none⟩) (Nat.le_refl _) _⟩
        · have p4 : (c == 5) = false := by simpa using h5
          have HE4 := Lib.hid (HE3.out.trans (if_neg h5))
          clear h5 HE3
          by_cases hdg : 48 ≤ s[0].toNat ∧ s[0].toNat ≤ 57
          · have HE5 := Lib.hid (HE4.out.trans (if_pos hdg))
            have HD1 : Hid (∀ u, Calls Tryz.prog 50 #[.int .u8 (s[0].toNat : Int)] u fun r w' => r = .returned (.bool true) ∧ w' = u) := Lib.hid (fun u => (HD.out u).mono fun r w' h => ⟨by rw [h.1]; simp [hdg], h.2⟩)
            have HNw := Lib.hid (HN.out 0 w3 (Nat.zero_le _))
            clear hdg HE4 HD
            go_wp2_with fail
            refine (HD1.out _).mono ?_
            rintro r w4 ⟨rfl, h⟩
            subst h
            go_wp2_with fail
            refine HNw.out.mono ?_
            rintro r w5 ⟨rfl, hb⟩
            have n4 := (hb.block _ l2).trans n2
            have B4 := Lib.hid (B2.out.trans (hb.mono (by omega)))
            clear hb k0 k1 k2 z0 z1 z2
            generalize dNumber s 0 = x at *
            have k0 : w5.cell? ⟨w.heap.size, 0, none⟩ = some (.int .i64 0) := by simp [World.cell?, n4]
            have k1 : w5.cell? ⟨w.heap.size, 1, none⟩ = some (.string ByteArray.empty) := by simp [World.cell?, n4]
            have k2 : w5.cell? ⟨w.heap.size, 2, none⟩ = some (.string ByteArray.empty) := by simp [World.cell?, n4]
            have z0 : w5.frozen? ⟨w.heap.size, 0, none⟩ = false := frozen_of_row w5 _ 0 _ _ n4
            have z1 : w5.frozen? ⟨w.heap.size, 1, none⟩ = false := frozen_of_row w5 _ 1 _ _ n4
            have z2 : w5.frozen? ⟨w.heap.size, 2, none⟩ = false := frozen_of_row w5 _ 2 _ _ n4
            go_wp2_with fail
            refine bodyPost_ret (results_row2 rfl _ _ w.heap.size 55 #[.int .i64 x.kind, .string x.text, .string x.glyph] (0, 0) _ rfl (set3 n4) Tryz.underlying55 rfl (by kernel_rfl)) rfl ?_
            exact ⟨by rw [HE5.out]; rfl, ((B4.out.setCell (p := ⟨w.heap.size, 0, none⟩) (Nat.le_refl _) _).setCell (p := ⟨w.heap.size, 1, none⟩) (Nat.le_refl _) _).setCell (p := ⟨w.heap.size, 2, none⟩) (Nat.le_refl _) _⟩
          · have HE5 := Lib.hid (HE4.out.trans (if_neg hdg))
            have HD1 : Hid (∀ u, Calls Tryz.prog 50 #[.int .u8 (s[0].toNat : Int)] u fun r w' => r = .returned (.bool false) ∧ w' = u) := Lib.hid (fun u => (HD.out u).mono fun r w' h => ⟨by rw [h.1]; simp [hdg], h.2⟩)
            clear hdg HE4 HD HN
            go_wp2_with fail
            refine (HD1.out _).mono ?_
            rintro r w4 ⟨rfl, h⟩
            subst h
            go_wp2_with fail
            refine (HW.out _).mono ?_
            rintro r w5 ⟨rfl, h⟩
            subst h
            by_cases h20 : 20 < d
            · have p5 : (20 : Int) < (d : Int) := by omega
              have HE6 := Lib.hid (HE5.out.trans (if_pos h20))
              clear h20
              go_wp2_with fail
              refine (HW.out _).mono ?_
              rintro r w6 ⟨rfl, h⟩
              subst h
              go_wp2_with fail
              refine bodyPost_ret (results_row2 rfl _ _ w.heap.size 55 #[.int .i64 10, .string (s.extract 0 d), .string ByteArray.empty] (0, 0) _ rfl (set3 n2) Tryz.underlying55 rfl (by kernel_rfl)) rfl ?_
              exact ⟨by rw [HE6.out]; rfl, ((B2.out.setCell (p := ⟨w.heap.size, 0, none⟩) (Nat.le_refl _) _).setCell (p := ⟨w.heap.size, 1, none⟩) (Nat.le_refl _) _).setCell (p := ⟨w.heap.size, 2, none⟩) (Nat.le_refl _) _⟩
            · have p5 : ¬ (20 : Int) < (d : Int) := by omega
              have HE6 := Lib.hid (HE5.out.trans (if_neg h20))
              clear h20 HE5
              go_wp2_with fail
              refine (HW.out _).mono ?_
              rintro r w6 ⟨rfl, h⟩
              subst h
              by_cases hd0 : 0 < d
              · have p6 : (0 : Int) < (d : Int) := by omega
                have HE7 := Lib.hid (HE6.out.trans (if_pos hd0))
                clear hd0
                go_wp2_with fail
                refine (HW.out _).mono ?_
                rintro r w7 ⟨rfl, h⟩
                subst h
                go_wp2_with fail
                refine bodyPost_ret (results_row2 rfl _ _ w.heap.size 55 #[.int .i64 5, .string (s.extract 0 d), .string ByteArray.empty] (0, 0) _ rfl (set3 n2) Tryz.underlying55 rfl (by kernel_rfl)) rfl ?_
                exact ⟨by rw [HE7.out]; rfl, ((B2.out.setCell (p := ⟨w.heap.size, 0, none⟩) (Nat.le_refl _) _).setCell (p := ⟨w.heap.size, 1, none⟩) (Nat.le_refl _) _).setCell (p := ⟨w.heap.size, 2, none⟩) (Nat.le_refl _) _⟩
              · have p6 : ¬ (0 : Int) < (d : Int) := by omega
                have HE7 := Lib.hid (HE6.out.trans (if_neg hd0))
                clear hd0 HE6
                by_cases hn0 : 0 < n
                · have p7 : (0 : Int) < (n : Int) := by omega
                  have HE8 := Lib.hid (HE7.out.trans (if_pos hn0))
                  clear hn0
                  go_wp2_with fail
                  refine wp_region_ord (S := fun _ => True) [0, 2, 3, 4, 5] [1, 6, 7, 8] (by kernel_rfl) (by kernel_rfl) (fun _ _ _ _ _ h => h) trivial ?_
                  simp only [pick, List.filterMap_cons, List.filterMap_nil, List.getElem?_toArray, List.getElem?_cons_zero, List.getElem?_cons_succ]
                  repeat (refine wpHead_step (v := ?_) rfl ?_ ?_; rotate_left; (focus (rintro w1 _; go_simp; try with_reducible rfl)); simp only [Act.put, List.setIfInBounds_toArray, List.set_cons_zero, List.set_cons_succ])
                  refine wpHead_nil ?_
                  refine wpTail_step rfl (fun K hK => ?_)
                  go_wp2_with fail
                  refine (HKd.out _).mono ?_
                  rintro r w7 ⟨rfl, rfl⟩
                  go_wp2_with fail
                  refine hK _ _ trivial ?_
                  clear hK K
                  try simp only [Act.put, List.setIfInBounds_toArray, List.set_cons_zero, List.set_cons_succ]
                  refine wpTail_step rfl (fun K hK => ?_)
                  go_wp2_with fail
                  refine hK _ _ trivial ?_
                  clear hK K
                  try simp only [Act.put, List.setIfInBounds_toArray, List.set_cons_zero, List.set_cons_succ]
                  refine wpTail_step rfl (fun K hK => ?_)
                  go_wp2_with fail
                  refine hK _ _ trivial ?_
                  clear hK K
                  try simp only [Act.put, List.setIfInBounds_toArray, List.set_cons_zero, List.set_cons_succ]
                  refine wpTail_step rfl (fun K hK => ?_)
                  go_wp2_with fail
                  refine hK _ _ trivial ?_
                  clear hK K
                  try simp only [Act.put, List.setIfInBounds_toArray, List.set_cons_zero, List.set_cons_succ]
                  refine wpTail_nil ?_
                  go_wp2_with fail
                  refine bodyPost_ret (results_row2 rfl _ _ w.heap.size 55 #[.int .i64 (dKind c), .string (s.extract 0 n), .string g] (0, 0) _ rfl (set3 n2) Tryz.underlying55 rfl (by kernel_rfl)) rfl ?_
                  exact ⟨by rw [HE8.out]; rfl, (((B2.out.setCell (p := ⟨w.heap.size, 0, none⟩) (Nat.le_refl _) _).setCell (p := ⟨w.heap.size, 1, none⟩) (Nat.le_refl _) _).setCell (p := ⟨w.heap.size, 2, none⟩) (Nat.le_refl _) _).drew⟩
                · have p7 : ¬ (0 : Int) < (n : Int) := by omega
                  have HE8 := Lib.hid (HE7.out.trans (if_neg hn0))
                  clear hn0 HE7
                  go_wp2_with fail
                  refine (HS.out _).mono ?_
                  rintro r w7 ⟨rfl, h⟩
                  subst h
                  go_wp2_with fail
                  refine bodyPost_ret (results_row2 rfl _ _ w.heap.size 55 #[.int .i64 10, .string (s.extract 0 st), .string ByteArray.empty] (0, 0) _ rfl (set3 n2) Tryz.underlying55 rfl (by kernel_rfl)) rfl ?_
                  exact ⟨by rw [HE8.out]; rfl, ((B2.out.setCell (p := ⟨w.heap.size, 0, none⟩) (Nat.le_refl _) _).setCell (p := ⟨w.heap.size, 1, none⟩) (Nat.le_refl _) _).setCell (p := ⟨w.heap.size, 2, none⟩) (Nat.le_refl _) _⟩
end Go.Proofs.YtflpihedhccdfaaGreatDoor.Rf
/-
  A text's tokens, by the document's program text.
-/
namespace Go.Proofs.YtflpihedhccdfaaGreatDoor.Rf
open Go.RowKit

set_option maxRecDepth 100000 in
set_option maxHeartbeats 4000000 in
theorem line_full (s : ByteArray) (w : World) (hs : s.size ≤ 8000) :
    Calls Tryz.prog 22 #[.string s] w fun e w' => GivesT (dLine s) e w w' := by
  obtain ⟨i0, hi0, hz0, hz1, hz2⟩ := info_parts infoTok
  have HF := Lib.hid first_full
  go_enter Tryz.func22, Tryz.ntmps22
  go_wp2
  go_loopw [0, 3] (fun t v wr => ∃ (u : ByteArray) (done : List Tok), t = .string u ∧ u.size ≤ 8000 ∧ done.length + u.size ≤ 8000 ∧ Hid (done ++ dLine u = dLine s) ∧
      wr.ownsRow w.heap.size 55 3 v done.length (tokCells done) ∧ Below w.heap.size w wr)
    (fun t _ _ => match t with | .string u => u.size | _ => 0)
  case atStart => exact ⟨s, [], rfl, hs, by simpa using hs, Lib.hid (by simp), World.ownsRow_nil _ _ _ _, Below.refl _ _⟩
  case round =>
    obtain ⟨u, done, rfl, hu, hdn, Hdone, hown, hb⟩ := hrel
    by_cases he : u.size = 0
    · have hue : u = noText := ByteArray.size_eq_zero_iff.1 he
      have hd2 : done = dLine s := by rw [← Hdone.out, hue, dLine_nil, List.append_nil]
      have Hd := Lib.hid hd2
      have q := Go.Proofs.YtflpihedhccdfaaGreatDoor.empty_is he
      clear Hdone hd2 he hue
      go_wp2_with fail
      go_ret
      obtain ⟨B, d, rfl, _, hH, hcap⟩ := holdsT_of_own hown
      rw [Hd.out] at hH hcap
      exact ⟨B, d, by rw [← Hd.out]; rfl, hH, hcap, hb⟩
    · have h1 : 0 < u.size := by omega
      have h5 := dLine_cons h1
      have h6 := rest_less h1
      obtain ⟨k, k1, k2, kt, _⟩ := first_begins h1
      have h3 : (dFirst u).text.size ≤ u.size := by rw [kt, ext_size]; omega
      unfold restOf at h5 h6
      have hdone := Hdone.out
      rw [h5] at hdone
      have q := Go.Proofs.YtflpihedhccdfaaGreatDoor.empty_not h1
      have HF1 := Lib.hid (HF.out u wr (by omega) h1)
      obtain ⟨x, hx⟩ : ∃ x, dFirst u = x := ⟨_, rfl⟩
      rw [hx] at HF1 h3 h6 hdone
      obtain ⟨u2, hu2⟩ : ∃ u2, u.extract x.text.size u.size = u2 := ⟨_, rfl⟩
      rw [hu2] at h6 hdone
      have Hd : Hid ((done ++ [x]) ++ dLine u2 = dLine s) := Lib.hid (by rw [← hdone]; simp)
      clear hdone Hdone h5 hx HF he kt k1 k2 k
      have l1 : (x.text.size : Int) ≤ (u.size : Int) := by omega
      go_wp2_with fail
      refine HF1.out.mono ?_
      rintro r w1 ⟨rfl, hb1⟩
      have hown1 : w1.ownsRow w.heap.size 55 3 u3 done.length (tokCells done) := own_below hown hb1
      have B1 := Lib.hid (hb.trans (hb1.mono hb.size))
      have lo := ownBlock_lt hown1
      have ge := ownBlock_ge hown1
      have lw := B1.out.size
      clear hb1 hown hb HF1
      go_wp2_with (at_builtin; refine wpList_append_own _ rfl _ _ 35 rfl w.heap.size 55 i0 _ 3 40 Tryz.underlying35 hi0 hz0 hz1 hz2 rfl (by decide) u3 done.length (tokCells done) rfl ((hown1.alloc _).alloc _) ⟨w1.heap.size + 1, 0, none⟩ 1 1 x.cells rfl rfl (World.news_of_block (cs := x.cells.toArray) (t := 55) (fr := (0, 0)) (by have := heap_alloc_new (w1.alloc (.cells #[.int .i64 x.kind, .string x.text, .string x.glyph] 55)) (.cells x.cells.toArray 55); simpa [Tok.cells] using this)) (by simp [Tok.cells, Value.oneCell']) (by unfold maxLen; omega) (by omega) (by simp; omega) ?_; intro v' w2 hown2 hgrow2 _; have hc1 := hgrow2.cell_far ⟨w1.heap.size, 1, none⟩ (by simp; omega) (by intro e; have := lo _ e.symm; simp at this))
      rw [← tokCells_one, ← tokCells_append] at hown2
      go_roundw
      case rel => exact ⟨u2, done ++ [x], rfl, by omega, by simp; omega, Hd, by simpa using hown2, ((B1.out.alloc (by omega) _).alloc (by simp; omega) _).grown hgrow2 (by simp; omega) ge⟩
      case measure => show u2.size < u.size; omega
end Go.Proofs.YtflpihedhccdfaaGreatDoor.Rf
/-
  Layer 5 by the document's program text: the line of a place, a splice.
-/
namespace Go.Proofs.YtflpihedhccdfaaGreatDoor.Rf
open Go.RowKit

set_option maxRecDepth 100000 in
set_option maxHeartbeats 4000000 in
theorem line_out (s : ByteArray) (i : Int) (w : World) (hs : s.size ≤ 1000000) (hi : i < 0 ∨ ((piecesB s).length : Int) ≤ i) :
    Calls Tryz.prog 21 #[.string s, .int .i64 i] w fun e w' => e = .returned (.tuple #[.string ⟨#[]⟩, .int .i64 20]) ∧ Below w.heap.size w w' := by
  have H := Lib.hid (starts_any s w hs)
  by_cases h0 : i < 0
  · clear hi
    go_enter Tryz.func21, Tryz.ntmps21
    go_wp2_with fail
    refine H.out.mono ?_
    rintro e w1 ⟨A, c, rfl, hH, hc, hb⟩
    have HB := Lib.hid hb
    clear hH hc hb H
    go_wp2_with fail
    go_ret2
    exact ⟨rfl, HB.out⟩
  · have h1 : ((piecesB s).length : Int) ≤ i := by omega
    clear hi
    go_enter Tryz.func21, Tryz.ntmps21
    go_wp2_with fail
    refine H.out.mono ?_
    rintro e w1 ⟨A, c, rfl, hH, hc, hb⟩
    have HB := Lib.hid hb
    clear hH hc hb H
    go_wp2_with fail
    go_ret2
    exact ⟨rfl, HB.out⟩

theorem starts_drop {s : ByteArray} {k st : Nat} (h : (startsOf s)[k]? = some st) : (startsOf s).drop k = st :: (startsOf s).drop (k + 1) := by
  obtain ⟨hl, rfl⟩ := List.getElem?_eq_some_iff.1 h
  exact List.drop_eq_getElem_cons hl

set_option maxRecDepth 100000 in
set_option maxHeartbeats 4000000 in
theorem in_any (s : ByteArray) (p : Nat) (w : World) (hs : s.size ≤ 1000000) :
    Calls Tryz.prog 35 #[.string s, .int .i64 (p : Int)] w fun e w' => e = .returned (.int .i64 ((foundL s.data.toList p).1 : Int)) ∧ Below w.heap.size w w' := by
  have H := Lib.hid (starts_any s w hs)
  have hsl := starts_len s
  have hpl := pieces_le s
  have HF : Hid (findL p 0 0 0 ((startsOf s).drop 0) = foundL s.data.toList p) := Lib.hid rfl
  go_enter Tryz.func35, Tryz.ntmps35
  go_wp2_with fail
  refine H.out.mono ?_
  rintro e w1 ⟨A, c, rfl, hH, hc, hb⟩
  have HB := Lib.hid hb
  have HH := Lib.hid hH
  have HSL := Lib.hid hsl
  clear hH hb H hsl
  generalize (piecesB s).length = N at *
  go_wp2_with fail
  go_loopw [6, 7] (fun n i wr => ∃ (k m b : Nat), k ≤ N ∧ i = .int .i64 (k : Int) ∧ n = .int .i64 (m : Int) ∧ Hid (findL p k m b ((startsOf s).drop k) = foundL s.data.toList p) ∧ w1 = wr) (fun _ i _ => N - (intOf i).toNat)
  case atStart => exact ⟨0, 0, 0, by omega, rfl, rfl, HF, rfl⟩
  case round =>
    obtain ⟨k, m, b, hk, rfl, rfl, HK, rfl⟩ := hrel
    by_cases hlt : k < N
    · have hx : ∃ st, (startsOf s)[k]? = some st := ⟨_, List.getElem?_eq_getElem (by rw [HSL.out]; exact hlt)⟩
      obtain ⟨st, hx⟩ := hx
      have hdr := starts_drop hx
      obtain ⟨b1, off, rfl, c1⟩ := HH.out k st hx
      have hkk := HK.out
      rw [hdr, findL] at hkk
      have c2 : (k : Int) < (N : Int) := by omega
      by_cases hle : st ≤ p
      · rw [if_pos hle] at hkk
        have HK2 := Lib.hid hkk
        have c3 : (st : Int) ≤ (p : Int) := by omega
        clear hkk hdr hx HK hle
        go_wp2_with fail
        go_roundw
        case rel => exact ⟨k + 1, k, st, by omega, by go_num, rfl, HK2, trivial⟩
        case measure => simp [intOf]; omega
      · rw [if_neg hle] at hkk
        have HK2 := Lib.hid hkk
        have c3 : ¬ (st : Int) ≤ (p : Int) := by omega
        clear hkk hdr hx HK hle
        go_wp2_with fail
        go_roundw
        case rel => exact ⟨k + 1, m, b, by omega, by go_num, rfl, HK2, trivial⟩
        case measure => simp [intOf]; omega
    · obtain rfl : k = N := by omega
      have hkk := HK.out
      rw [List.drop_eq_nil_of_le (by rw [HSL.out]; exact Nat.le_refl _), findL] at hkk
      have HK2 : Hid (m = (foundL s.data.toList p).1) := Lib.hid (by rw [← hkk])
      clear hkk HK
      go_wp2_with fail
      go_ret
      exact ⟨by rw [← HK2.out]; rfl, HB.out⟩

set_option maxRecDepth 100000 in
set_option maxHeartbeats 8000000 in
theorem splice_any (t : ByteArray) (p n : Int) (s : ByteArray) (w : World) (ht : t.size ≤ 4000) (hs : s.size ≤ 1000000) (hn : -9223372036854775808 ≤ n ∧ n ≤ 9223372036854775807) :
    Calls Tryz.prog 20 #[.string t, .int .i64 p, .int .i64 n, .string s] w fun e w' =>
      e = .returned (.tuple #[.string (textS t p n s), .agg #[.int .i64 ((doneS t p n s).fro : Int), .int .i64 ((doneS t p n s).old : Int), .int .i64 ((doneS t p n s).new : Int)], .int .i64 (errS t p n s)]) ∧ Below w.heap.size w w' := by
  have hr0 := heap_alloc_new w (.cells #[.int .i64 0, .int .i64 0, .int .i64 0] 29)
  have hb0 := below_new w (.cells #[.int .i64 0, .int .i64 0, .int .i64 0] 29)
  obtain ⟨W0, hW0⟩ : ∃ W0, w.alloc (.cells #[.int .i64 0, .int .i64 0, .int .i64 0] 29) = W0 := ⟨_, rfl⟩
  have hzW : W0.heap.size = w.heap.size + 1 := by rw [← hW0]; simp
  have HS := Lib.hid (refSplice_any t s p n W0 (by omega) hs hn)
  rw [hW0] at hr0 hb0
  have HR0 := Lib.hid hr0
  have HB0 := Lib.hid hb0
  have HW0 := Lib.hid hW0
  clear hr0 hb0 hW0
  by_cases he : errS t p n s = 0
  · obtain ⟨h1, h2, h3, h4⟩ := err_right he
    obtain ⟨P, rfl⟩ : ∃ P : Nat, p = (P : Int) := ⟨p.toNat, by omega⟩
    obtain ⟨M, rfl⟩ : ∃ M : Nat, n = (M : Int) := ⟨n.toNat, by omega⟩
    have hd : doneS t P M s = chgS t P M s := by unfold doneS; rw [if_pos he]; simp only [Int.toNat_natCast]
    rw [hd, he]
    rw [he] at HS
    have HI := Lib.hid (fun q W => in_any t q W (by omega))
    have HL := Lib.hid (fun W => starts_any s W hs)
    obtain ⟨_, _, _, hlines, hold, _⟩ := chg_lines (t := t) (s := s) (p := P) (n := M) (by omega)
    have hF : (chgS t P M s).fro = (foundL t.data.toList P).1 := rfl
    have hG : (chgS t P M s).old = (foundL t.data.toList (P + M)).1 - (foundL t.data.toList P).1 + 1 := rfl
    have hN : (chgS t P M s).new = (piecesB s).length := rfl
    have hmono := find_mono P (P + M) (by omega) (stL 0 (linesL t.data.toList)) 0 0 0 0 0 (Nat.le_refl _) (Nat.le_refl _) (Nat.le_refl _)
    have hpl := pieces_le t
    rw [hF, hG] at hlines
    rw [hF, hG, hN]
    have hFF : (foundL t.data.toList P).1 ≤ (foundL t.data.toList (P + M)).1 := hmono
    generalize textS t P M s = tt at *
    have i0 : IntKind.i64.wrap ((P : Int) + (M : Int)) = ((P + M : Nat) : Int) := (IntWalk.i64_in _ (by omega)).trans (by omega)
    have HI1 := Lib.hid (fun W => HI.out P W)
    have HI2 := Lib.hid (fun W => HI.out (P + M) W)
    clear HI hd hF hG hN hold hmono he
    generalize (foundL t.data.toList P).1 = f at *
    generalize (foundL t.data.toList (P + M)).1 = g at *
    generalize hPM : P + M = PM at *
    clear hPM
    have i1 : IntKind.i64.wrap ((g : Int) - (f : Int)) = (g : Int) - (f : Int) := IntWalk.i64_in _ (by omega)
    have i2 : IntKind.i64.wrap ((g : Int) - (f : Int) + 1) = ((g - f + 1 : Nat) : Int) := (IntWalk.i64_in _ (by omega)).trans (by omega)
    obtain ⟨o, ho⟩ : ∃ o, g - f + 1 = o := ⟨_, rfl⟩
    rw [ho] at i2 ⊢
    clear ho
    go_enter Tryz.func20, Tryz.ntmps20
    go_upto_region 1 with fail
    rw [HW0.out]
    clear HW0
    go_wp2_with fail
    refine HS.out.mono ?_
    rintro e w1 ⟨rfl, hb1⟩
    have B1 := Lib.hid (HB0.out.trans (hb1.mono (by omega)))
    have R1 := Lib.hid ((hb1.block _ (by omega)).trans HR0.out)
    have z1 := hb1.size
    clear hb1 HS HB0 HR0
    go_wp2_with fail
    refine (HI1.out _).mono ?_
    rintro e w2 ⟨rfl, hb2⟩
    have B2 := Lib.hid (B1.out.trans (hb2.mono (by omega)))
    have R2 := Lib.hid ((hb2.block _ (by omega)).trans R1.out)
    have z2 := hb2.size
    clear hb2 B1 R1
    go_wp2_with fail
    refine (HI2.out _).mono ?_
    rintro e w3 ⟨rfl, hb3⟩
    have B3 := Lib.hid (B2.out.trans (hb3.mono (by omega)))
    have R3 := Lib.hid ((hb3.block _ (by omega)).trans R2.out)
    have z3 := hb3.size
    clear hb3 B2 R2
    go_wp2_with fail
    refine (HL.out _).mono ?_
    rintro e w4 ⟨A, c, rfl, -, -, hb4⟩
    have B4 := Lib.hid (B3.out.trans (hb4.mono (by omega)))
    have hr4 := (hb4.block _ (by omega)).trans R3.out
    clear hb4 B3 R3 HL HI1 HI2
    have y0 := (cell_of_row _ _ 0 _ _ _ hr4).trans (rfl : _ = some (Value.int .i64 0))
    have y1 := (cell_of_row _ _ 1 _ _ _ hr4).trans (rfl : _ = some (Value.int .i64 0))
    have y2 := (cell_of_row _ _ 2 _ _ _ hr4).trans (rfl : _ = some (Value.int .i64 0))
    have zz : ∀ j, w4.frozen? ⟨w.heap.size, j, none⟩ = false := fun j => frozen_of_row _ _ j _ _ hr4
    obtain ⟨nw, hnw⟩ : ∃ nw, nw = (piecesB s).length := ⟨_, rfl⟩
    have HNW := Lib.hid hnw
    rw [← hnw]
    clear hnw
    go_wp2_with fail
    have hR9 := set3 (b1 := .int .i64 (f : Int)) (b2 := .int .i64 (o : Int)) (b3 := .int .i64 (nw : Int)) hr4
    have hB9 := below_set3 B4.out (r := w.heap.size) (Nat.le_refl _) (.int .i64 (f : Int)) (.int .i64 (o : Int)) (.int .i64 (nw : Int))
    generalize ((w4.setCell ⟨w.heap.size, 0, none⟩ (.int .i64 (f : Int))).setCell ⟨w.heap.size, 1, none⟩ (.int .i64 (o : Int))).setCell ⟨w.heap.size, 2, none⟩ (.int .i64 (nw : Int)) = W9 at *
    have v0 := (cell_of_row _ _ 0 _ _ _ hR9).trans (rfl : _ = some (Value.int .i64 (f : Int)))
    have v1 := (cell_of_row _ _ 1 _ _ _ hR9).trans (rfl : _ = some (Value.int .i64 (o : Int)))
    have v2 := (cell_of_row _ _ 2 _ _ _ hR9).trans (rfl : _ = some (Value.int .i64 (nw : Int)))
    rw [← HNW.out]
    exact bodyPost_ret (v := .tuple #[.string tt, .agg #[.int .i64 (f : Int), .int .i64 (o : Int), .int .i64 (nw : Int)], .int .i64 0]) (by simp [results, Tryz.results20, go_sem, v0, v1, v2]) rfl ⟨rfl, hB9⟩
  · have e1 : doneS t p n s = noChg := by unfold doneS; rw [if_neg he]
    have e2 : textS t p n s = t := by unfold textS; rw [if_neg he]
    have he1 : (errS t p n s == 0) = false := by simpa using he
    rw [e2] at HS
    rw [e1, e2]
    unfold noChg
    generalize errS t p n s = er at *
    clear e1 e2 he
    go_enter Tryz.func20, Tryz.ntmps20
    go_upto_region 1 with fail
    rw [HW0.out]
    clear HW0
    go_wp2_with fail
    refine HS.out.mono ?_
    rintro e w1 ⟨rfl, hb1⟩
    have hr4 := (hb1.block _ (by omega)).trans HR0.out
    have B1 := Lib.hid (HB0.out.trans (hb1.mono (by omega)))
    clear hb1 HS HB0 HR0
    have y0 := (cell_of_row _ _ 0 _ _ _ hr4).trans (rfl : _ = some (Value.int .i64 0))
    have y1 := (cell_of_row _ _ 1 _ _ _ hr4).trans (rfl : _ = some (Value.int .i64 0))
    have y2 := (cell_of_row _ _ 2 _ _ _ hr4).trans (rfl : _ = some (Value.int .i64 0))
    have zz : ∀ j, w1.frozen? ⟨w.heap.size, j, none⟩ = false := fun j => frozen_of_row _ _ j _ _ hr4
    go_wp2_with fail
    have hR9 := set3 (b1 := .int .i64 0) (b2 := .int .i64 0) (b3 := .int .i64 0) hr4
    have hB9 := below_set3 B1.out (r := w.heap.size) (Nat.le_refl _) (.int .i64 0) (.int .i64 0) (.int .i64 0)
    generalize ((w1.setCell ⟨w.heap.size, 0, none⟩ (.int .i64 0)).setCell ⟨w.heap.size, 1, none⟩ (.int .i64 0)).setCell ⟨w.heap.size, 2, none⟩ (.int .i64 0) = W9 at *
    have v0 := (cell_of_row _ _ 0 _ _ _ hR9).trans (rfl : _ = some (Value.int .i64 0))
    have v1 := (cell_of_row _ _ 1 _ _ _ hR9).trans (rfl : _ = some (Value.int .i64 0))
    have v2 := (cell_of_row _ _ 2 _ _ _ hR9).trans (rfl : _ = some (Value.int .i64 0))
    exact bodyPost_ret (v := .tuple #[.string t, .agg #[.int .i64 0, .int .i64 0, .int .i64 0], .int .i64 er]) (by simp [results, Tryz.results20, go_sem, v0, v1, v2]) rfl ⟨rfl, hB9⟩
end Go.Proofs.YtflpihedhccdfaaGreatDoor.Rf
/-
  A text's tokens, by the document's program text of layer 5.
-/
namespace Go.Proofs.YtflpihedhccdfaaGreatDoor.Rf
open Go Go.RowKit

set_option maxRecDepth 100000 in
set_option maxHeartbeats 8000000 in
theorem tokens_any (t : ByteArray) (w : World) (ht : t.size ≤ 4000) :
    Calls Tryz.prog 24 #[.string t] w fun e w' => GivesT (tokensS t) e w w' := by
  obtain ⟨i0, hi0, hz0, hz1, hz2⟩ := info_parts infoTok
  have HS := Lib.hid (starts_any t w (by omega))
  have HLn := Lib.hid (fun (k : Nat) (p : ByteArray) (W : World) (hp : (piecesB t)[k]? = some p) => line_any t p k W (by omega) hp)
  have HLf := Lib.hid (fun (k : Nat) (p : ByteArray) (W : World) (hp : (piecesB t)[k]? = some p) => line_full p W (by have := piece_small hp; omega))
  have hpl := pieces_le t
  have hup : ∀ k, (toksOf ((piecesB t).take k)).length ≤ 5000 := fun k => by
    have h1 := toksOf_len ((piecesB t).take k)
    have h2 : (((piecesB t).take k).map (fun s => s.size + 1)).sum ≤ ((piecesB t).map (fun s => s.size + 1)).sum := by
      conv => rhs; rw [← List.take_append_drop k (piecesB t), List.map_append, List.sum_append]
      omega
    have h3 := sum_join _ (pieces_ne t)
    rw [join_pieces, bytes_len] at h3
    omega
  have HUP := Lib.hid hup
  have HPS : Hid (∀ (k : Nat) (p : ByteArray), (piecesB t)[k]? = some p → (dLine p).length ≤ 5000) := Lib.hid (fun k p hp => by
    have h1 := dLine_len p
    have h2 := piece_small hp
    omega)
  have HTD : Hid (toksOf (piecesB t) = tokensS t) := Lib.hid rfl
  have hP : (piecesB t).length ≤ 4001 := by omega
  clear hup hpl
  go_enter Tryz.func24, Tryz.ntmps24
  go_wp2_with fail
  refine HS.out.mono ?_
  rintro e w1 ⟨A1, c1, rfl, -, -, hb1⟩
  have HB1 := Lib.hid hb1
  have hz1' := hb1.size
  clear hb1 HS
  generalize hPP : piecesB t = P at *
  clear hPP
  go_wp2_with fail
  go_loopw [3, 5] (fun v i wr => ∃ (j : Nat), j ≤ P.length ∧ i = .int .i64 (j : Int) ∧ Hid (wr.ownsRow w.heap.size 55 3 v (toksOf (P.take j)).length (tokCells (toksOf (P.take j)))) ∧ Hid (Below w.heap.size w wr)) (fun _ i _ => P.length - (intOf i).toNat)
  case atStart => exact ⟨0, Nat.zero_le _, rfl, Lib.hid (World.ownsRow_nil _ _ _ _), HB1⟩
  case round =>
    obtain ⟨j, hj, rfl, HO, HBx⟩ := hrel
    have hsw := HBx.out.size
    by_cases hjl : j < P.length
    · have hx := List.getElem?_eq_getElem hjl
      have hul := HUP.out j
      have hpl := HPS.out j P[j] hx
      have hsn := toksOf_snoc (P.take j) P[j]
      rw [← take_one hx] at hsn
      have hnil : P.take j = [] ↔ j = 0 := by
        rw [← List.length_eq_zero_iff, List.length_take]; omega
      have hT10 : j = 0 → toksOf (P.take j) = [] := fun e => by subst e; rfl
      generalize P[j] = p at *
      have S1 := Lib.hid (HLn.out j p wr hx)
      have SL := Lib.hid (fun W => HLf.out j p W hx)
      obtain ⟨T2, hT2e⟩ : ∃ T, T = toksOf (P.take (j + 1)) := ⟨_, rfl⟩
      rw [← hT2e] at hsn
      have HT2e := Lib.hid hT2e
      generalize toksOf (P.take j) = T1 at *
      have hob := ownBlock_ge HO.out
      have c1 : (j : Int) < (P.length : Int) := by omega
      by_cases h0 : j = 0
      · have hT2 : T2 = dLine p := by rw [hsn, if_pos (hnil.2 h0)]
        have hT1 : T1 = [] := hT10 h0
        have hgt : ¬ (0 : Int) < (j : Int) := by omega
        have HE := Lib.hid (And.intro hT1 hT2)
        clear hsn hnil hT10 h0 hT1 hT2 hx hT2e
        go_wp2_with fail
        refine S1.out.mono ?_
        rintro e w5 ⟨rfl, hb5⟩
        have HO5 := Lib.hid (own_below HO.out hb5)
        have HB5 := Lib.hid (HBx.out.trans (hb5.mono hsw))
        have hz5 := hb5.size
        clear hb5 S1
        go_wp2_with fail
        refine (SL.out _).mono ?_
        rintro e w6 ⟨A6, c6, rfl, hH6, -, hb6⟩
        have HO6 := Lib.hid (own_below HO5.out hb6)
        have HH6 := Lib.hid hH6
        have hz6 := hb6.size
        have HB6 := Lib.hid (HB5.out.trans (hb6.mono (by omega)))
        clear hH6 hb6 SL
        go_wp2_with (at_builtin; go_must (refine wpList_append_toks rfl _ _ rfl rfl i0 _ hi0 hz0 hz1 hz2 rfl w.heap.size _ T1.length (tokCells T1) rfl HO6.out A6 c6 (dLine p) rfl HH6.out (by omega) (by omega) (by omega) ?_); go_must (intro v1 w3 hown3 hg3))
        go_roundw
        case rel =>
          refine ⟨j + 1, by omega, by go_num, Lib.hid ?_, Lib.hid (HB6.out.grown hg3 (by omega) hob)⟩
          rw [← HT2e.out, HE.out.2]
          rw [HE.out.1] at hown3
          simpa [tokCells] using hown3
        case measure => simp [intOf]; omega
      · have hT2 : T2 = T1 ++ endT :: dLine p := by rw [hsn, if_neg (fun e => h0 (hnil.1 e))]
        have hgt : (0 : Int) < (j : Int) := by omega
        have HE := Lib.hid hT2
        clear hsn hnil hT10 h0 hT2 hx hT2e
        go_wp2_with fail
        refine S1.out.mono ?_
        rintro e w5 ⟨rfl, hb5⟩
        have HO5 := Lib.hid (own_below HO.out hb5)
        have HB5 := Lib.hid (HBx.out.trans (hb5.mono hsw))
        have hz5 := hb5.size
        clear hb5 S1
        have hbA := below_new w5 (.cells #[.int .i64 11, .string ⟨#[10]⟩, .string ⟨#[]⟩] 55)
        have HO2 := Lib.hid (own_below HO5.out hbA)
        have HBA := Lib.hid hbA
        clear hbA
        go_wp2_with (first
          | (at_builtin; go_must (refine wpList_append_own _ rfl _ _ 35 rfl w.heap.size 55 i0 _ 3 40 Tryz.underlying35 hi0 hz0 hz1 hz2 rfl (by decide) u3 T1.length (tokCells T1) rfl HO2.out ⟨w5.heap.size, 0, none⟩ 1 1 [.int .i64 11, .string ⟨#[10]⟩, .string ⟨#[]⟩] rfl rfl (World.news_of_block (cs := #[.int .i64 11, .string ⟨#[10]⟩, .string ⟨#[]⟩]) (t := 55) (fr := (0, 0)) (heap_alloc_new w5 _)) (by simp [Value.oneCell']) (by unfold maxLen; omega) (by omega) (by simp; omega) ?_); go_must (intro v1 w3 hown3 hg3 _)))
        have hz3 := hg3.size
        simp only [World.size_alloc] at hz3
        have hb3 : Below w.heap.size w w3 := (HB5.out.trans (HBA.out.mono (by omega))).grown hg3 (by simp; omega) hob
        have HN3 := Lib.hid hown3
        have HB3 := Lib.hid hb3
        clear hg3 hown3 hb3
        go_wp2_with fail
        refine (SL.out _).mono ?_
        rintro e w6 ⟨A6, c6, rfl, hH6, -, hb6⟩
        have HO6 := Lib.hid (own_below HN3.out hb6)
        have HH6 := Lib.hid hH6
        have hz6 := hb6.size
        have HB6 := Lib.hid (HB3.out.trans (hb6.mono (by omega)))
        clear hH6 hb6 SL
        go_wp2_with (at_builtin; go_must (refine wpList_append_toks rfl _ _ rfl rfl i0 _ hi0 hz0 hz1 hz2 rfl w.heap.size _ (T1.length + 1) _ rfl HO6.out A6 c6 (dLine p) rfl HH6.out (by omega) (by omega) (by omega) ?_); go_must (intro v4 w4 hown4 hg4))
        go_roundw
        case rel =>
          refine ⟨j + 1, by omega, by go_num, Lib.hid ?_, Lib.hid (HB6.out.grown hg4 (by omega) (ownBlock_ge HN3.out))⟩
          have e : tokCells (T1 ++ endT :: dLine p) = (tokCells T1 ++ [.int .i64 11, .string ⟨#[10]⟩, .string ⟨#[]⟩]) ++ tokCells (dLine p) := by
            rw [tokCells_append, show endT :: dLine p = [endT] ++ dLine p from rfl, tokCells_append, tokCells_one, endT_cells, List.append_assoc]
          have el : (T1 ++ endT :: dLine p).length = T1.length + 1 + (dLine p).length := by simp; omega
          rw [← HT2e.out, HE.out, e, el]
          exact hown4
        case measure => simp [intOf]; omega
    · obtain rfl : j = P.length := by omega
      have htk : P.take P.length = P := List.take_length
      have ho := HO.out
      rw [htk, HTD.out] at ho
      have HO5 := Lib.hid ho
      have c1 : ¬ ((P.length : Int) < (P.length : Int)) := by omega
      clear ho HO htk
      go_wp2_with fail
      go_ret
      exact gives_of HO5.out HBx.out
end Go.Proofs.YtflpihedhccdfaaGreatDoor.Rf
