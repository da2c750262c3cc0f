/-
  XRfE, turned: what this seat needs of it.
-/
import Derived.Test.YtebejlnegalokaaGreatDoorProg
import Derived.Test.YtebejlnegalokaaGreatDoorReg
import Derived.WalkKit
import Derived.WalkSpells
import Derived.WalkLawsBesides
import Derived.Lib.Hide
import Derived.Lib.MinMax
import Derived.Deep.QuietTactic
import Derived.BigQuiet
import Derived.OwnWalk
import Derived.Deep.AppendLies
import Derived.KernelRfl
import Derived.Test.YtebejlnegalokaaGreatDoorReg
import Derived.WalkKit
import Derived.Lib.TrimU
import Derived.Lib.QuoteLoop
import Derived.Below
import Derived.Laws.OwnMore
import Derived.Deep.Draws
import Derived.Deep.AppendLies
import Derived.Shelf.Strings.BuilderF
import Derived.Lib.FrozenHead2
import Derived.Deep.OwnRows
import Derived.Maps.AppendAt
import Derived.Deep.RegionWith
import Derived.Test.YtebejlnegalokaaGreatDoorMap
import Derived.Test.YtebejlnegalokaaGreatDoorRegZ
import Derived.Laws.RangeAny
import Derived.Shelf.Abstract
import Derived.Maps.OwnSet
import Derived.OneCell
import Derived.Laws.Rows
import Derived.Tactics
import Derived.Tactics2
import Derived.Defers
import Derived.Laws.Pointers
import Derived.Laws.LoneSync
import Derived.RegionTactic
import Derived.RegionCalls
import Derived.ChangeAlike
import Derived.RangeFuncNested
import Derived.RangeFuncBound
import Derived.RangeFuncCalls
import Derived.RangeFuncLeaves
import Derived.RangeFuncBox
import Derived.OwnWalkIn
import Derived.TacticsInMore
import Derived.LoopNIn
import Derived.LoopIn
import Derived.Deep.RegionLaw
import Derived.Deep.Cut
import Derived.Test.YtebejlnegalokaaGreatDoorRegIn
import Derived.Test.YtebejlnegalokaaGreatDoorJoint2
import Derived.Test.YtebejlnegalokaaGreatDoorRegG
import Derived.Test.YtebejlnegalokaaGreatDoorMapI
import Derived.Lib.TrimByte
import Derived.Laws.ResultCell
import Derived.Test.YtebejlnegalokaaGreatDoorLzM3
set_option linter.unusedSimpArgs false
set_option linter.unusedVariables false
namespace Go.Proofs.YtebejlnegalokaaGreatDoor.Lz.Rf
open Go.RowKit
theorem results_row2 {P : Program} {fn : Func} {p u : Tmp} {ty : TypeId} (h : fn.results = #[.cell p ty, .tmp u]) (tmps : Array Value) (w : World) (g : Nat) (t : TypeId) (cs : Array Value) (fr : Nat × Nat) (d : TypeDesc)
    (hp : tmps.getD p undef = .pointer (some ⟨g, 0, none⟩)) (hg : w.heap[g]? = some (.cells cs t fr))
    (hu : P.underlying ty = some d) (hd : (match d with | .struct _ | .array _ _ => true | _ => false) = true) (hi : (P.info? ty).map (·.size) = some cs.size) :
    (results fn tmps).run P w = .ok (.tuple #[.agg cs, tmps.getD u undef]) w := by
  rw [results_cell_tmp h, hp]
  simp [asAddr, run_loadVar_row w g t ty cs fr d hg hu hd hi, Result.andThen]
theorem quoted_le (s : ByteArray) (h : 0 < s.size) : dQuoted s ≤ s.size := by
  by_cases hq : dQuoted s = 0
  · omega
  · exact (dQuoted_take hq).2.2 h
set_option maxRecDepth 100000 in
set_option maxHeartbeats 16000000 in
theorem first_full (s : ByteArray) (w : World) (hs : s.size ≤ 1000000) (h0 : 0 < s.size) :
    Calls Tryz.prog 63 #[.string s] w fun r w' => r = .returned (.tuple #[.agg #[.int .i64 (dFirst s).kind, .string (dFirst s).text, .string (dFirst s).glyph], .bool true]) ∧ Below w.heap.size w w' := by
  have HE : Hid (dFirst s = if 0 < dBlanks s then ⟨1, s.extract 0 (dBlanks s), noText⟩ else
      if gClass (gFirst s).1 = 6 then ⟨2, s, (gFirst s).1⟩ else
      if byte0 s = 39 then (if dQuoted s = 0 then ⟨10, s, noText⟩ else ⟨4, s.extract 0 (dQuoted s), noText⟩) else
      if gClass (gFirst s).1 = 5 then dNumber s (gFirst s).2 else
      if 48 ≤ byte0 s ∧ byte0 s ≤ 57 then dNumber s 0 else
      if 20 < dWord s then ⟨10, s.extract 0 (dWord s), noText⟩ else
      if 0 < dWord s then ⟨5, s.extract 0 (dWord s), noText⟩ else
      if 0 < (gFirst s).2 then ⟨dKind (gClass (gFirst s).1), s.extract 0 (gFirst s).2, (gFirst s).1⟩ else ⟨10, s.extract 0 (dStep s), noText⟩) := Lib.hid rfl
  have HG := Lib.hid (fun u => gfirst_any s u (by unfold maxLen; omega))
  have HC := Lib.hid (class_any (gFirst s).1)
  have HB := Lib.hid (fun u => blanks_any s u hs)
  have HW := Lib.hid (fun u => word_any s u hs)
  have HQ := Lib.hid (fun u => quoted_any s u hs)
  have HS := Lib.hid (fun u => step_any s u hs h0)
  have hgn := gFirst_size s
  have HN : Hid (∀ (m : Nat) (u : World), m ≤ s.size → Calls Tryz.prog 94 #[.string s, .int .i64 (m : Int)] u fun r w' => r = .returned (.agg #[.int .i64 (dNumber s m).kind, .string (dNumber s m).text, .string (dNumber s m).glyph]) ∧ Below u.heap.size u w') := Lib.hid (fun m u h => number_any s m u hs h)
  have hbyte : s[0] = s.data.toList.headD 0 := by
    have e : s.data.toList = s[0] :: s.data.toList.drop 1 := by
      rw [← byte_get s 0 h0]
      exact List.drop_eq_getElem_cons (show 0 < s.data.toList.length from h0)
    rw [e]
    rfl
  have HD := Lib.hid (isDigit_any (s.data.toList.headD 0))
  have hb0 : byte0 s = s[0].toNat := by rw [hbyte]; rfl
  have hdig : isDig (s.data.toList.headD 0) = decide (48 ≤ byte0 s ∧ byte0 s ≤ 57) := by
    unfold isDig byte0
    rw [Bool.eq_iff_iff]
    simp
  rw [← hbyte] at HD hdig
  rw [hdig] at HD
  rw [hb0] at HE HD
  have hble : dBlanks s ≤ s.size := blanks_le s
  have hwle : dWord s ≤ s.size := word_le s
  have hqle : dQuoted s ≤ s.size := quoted_le s h0
  have hsle := (dStep_range h0).2
  have HKd := Lib.hid (kind_any (gClass (gFirst s).1))
  clear hbyte hdig hb0
  obtain ⟨g, hg⟩ : ∃ g, (gFirst s).1 = g := ⟨_, rfl⟩
  obtain ⟨n, hn⟩ : ∃ n, (gFirst s).2 = n := ⟨_, rfl⟩
  obtain ⟨c, hc⟩ : ∃ c, gClass g = c := ⟨_, rfl⟩
  rw [hn] at HE HG hgn
  rw [hg] at HE HG HC HKd
  rw [hc] at HE HC HKd
  generalize dBlanks s = bl at *
  generalize dWord s = d at *
  generalize dQuoted s = q at *
  generalize dStep s = st at *
  clear hg hn hc
  have q4 := empty_not (u := s) (fun e => by rw [e] at h0; simp at h0)
  have z0 : (0 : Int) < (s.size : Int) := by omega
  have e1 : (bl : Int) ≤ (s.size : Int) := by omega
  have e2 : (d : Int) ≤ (s.size : Int) := by omega
  have e3 : (q : Int) ≤ (s.size : Int) := by omega
  have e4 : (n : Int) ≤ (s.size : Int) := by omega
  have e5 : (st : Int) ≤ (s.size : Int) := by omega
  go_enter Tryz.func63, Tryz.ntmps63
  go_wp2_with fail
  refine (HG.out _).mono ?_
  rintro r w1 ⟨rfl, hb⟩
  rw [World.size_alloc] at hb
  have n1 : w1.heap[w.heap.size]? = some (.cells #[.int .i64 0, .string ByteArray.empty, .string ByteArray.empty] 37 (0, 0)) := (hb.block _ (by simp)).trans (heap_alloc_new w _)
  have B1 := Lib.hid (((Below.refl w.heap.size w).alloc (Nat.le_refl _) (.cells #[.int .i64 0, .string ByteArray.empty, .string ByteArray.empty] 37)).trans (hb.mono (by omega)))
  have l1 := (Array.getElem?_eq_some_iff.1 n1).1
  clear hb HG
  go_wp2_with fail
  refine (HC.out _).mono ?_
  rintro r w2 ⟨rfl, hb⟩
  have n2 := (hb.block _ l1).trans n1
  have B2 := Lib.hid (B1.out.trans (hb.mono (by omega)))
  have l2 := (Array.getElem?_eq_some_iff.1 n2).1
  clear hb HC B1 n1 l1
  go_wp2_with fail
  refine (HB.out _).mono ?_
  rintro r w3 ⟨rfl, h⟩
  subst h
  have k0 : w3.cell? ⟨w.heap.size, 0, none⟩ = some (.int .i64 0) := by simp [World.cell?, n2]
  have k1 : w3.cell? ⟨w.heap.size, 1, none⟩ = some (.string ByteArray.empty) := by simp [World.cell?, n2]
  have k2 : w3.cell? ⟨w.heap.size, 2, none⟩ = some (.string ByteArray.empty) := by simp [World.cell?, n2]
  have z0 : w3.frozen? ⟨w.heap.size, 0, none⟩ = false := frozen_of_row w3 _ 0 _ _ n2
  have z1 : w3.frozen? ⟨w.heap.size, 1, none⟩ = false := frozen_of_row w3 _ 1 _ _ n2
  have z2 : w3.frozen? ⟨w.heap.size, 2, none⟩ = false := frozen_of_row w3 _ 2 _ _ n2
  by_cases hbl : 0 < bl
  · have p1 : (0 : Int) < (bl : Int) := by omega
    go_wp2_with fail
    refine (HB.out _).mono ?_
    rintro r w4 ⟨rfl, h⟩
    subst h
    go_wp2_with fail
    refine bodyPost_ret (results_row2 rfl _ _ w.heap.size 37 #[.int .i64 1, .string (s.extract 0 bl), .string ByteArray.empty] (0, 0) _ rfl (set3 n2) Tryz.underlying37 rfl (by kernel_rfl)) rfl ?_
    exact ⟨by rw [HE.out, if_pos hbl]; rfl, ((B2.out.setCell (p := ⟨w.heap.size, 0, none⟩) (Nat.le_refl _) _).setCell (p := ⟨w.heap.size, 1, none⟩) (Nat.le_refl _) _).setCell (p := ⟨w.heap.size, 2, none⟩) (Nat.le_refl _) _⟩
  · have p1 : ¬ (0 : Int) < (bl : Int) := by omega
    have hE := HE.out
    rw [if_neg hbl] at hE
    have HE1 := Lib.hid hE
    clear hE HE hbl
    by_cases h6 : c = 6
    · have p2 : (c == 6) = true := by simpa using h6
      have HE2 := Lib.hid (HE1.out.trans (if_pos h6))
      clear h6
      go_wp2_with fail
      refine bodyPost_ret (results_row2 rfl _ _ w.heap.size 37 #[.int .i64 2, .string s, .string g] (0, 0) _ rfl (set3 n2) Tryz.underlying37 rfl (by kernel_rfl)) rfl ?_
      exact ⟨by rw [HE2.out]; rfl, ((B2.out.setCell (p := ⟨w.heap.size, 0, none⟩) (Nat.le_refl _) _).setCell (p := ⟨w.heap.size, 1, none⟩) (Nat.le_refl _) _).setCell (p := ⟨w.heap.size, 2, none⟩) (Nat.le_refl _) _⟩
    · have p2 : (c == 6) = false := by simpa using h6
      have HE2 := Lib.hid (HE1.out.trans (if_neg h6))
      clear h6 HE1
      by_cases h39 : s[0].toNat = 39
      · have p3 : ((s[0].toNat : Int) == 39) = true := by rw [h39]; rfl
        have HE3 := Lib.hid (HE2.out.trans (if_pos h39))
        clear h39 HE2
        go_wp2_with fail
        refine (HQ.out _).mono ?_
        rintro r w4 ⟨rfl, h⟩
        subst h
        by_cases hq : q = 0
        · have p4 : ((q : Int) == 0) = true := by rw [hq]; rfl
          have HE4 := Lib.hid (HE3.out.trans (if_pos hq))
          clear hq
          go_wp2_with fail
          refine bodyPost_ret (results_row2 rfl _ _ w.heap.size 37 #[.int .i64 10, .string s, .string ByteArray.empty] (0, 0) _ rfl (set3 n2) Tryz.underlying37 rfl (by kernel_rfl)) rfl ?_
          exact ⟨by rw [HE4.out]; rfl, ((B2.out.setCell (p := ⟨w.heap.size, 0, none⟩) (Nat.le_refl _) _).setCell (p := ⟨w.heap.size, 1, none⟩) (Nat.le_refl _) _).setCell (p := ⟨w.heap.size, 2, none⟩) (Nat.le_refl _) _⟩
        · have p4 : ((q : Int) == 0) = false := by rw [beq_eq_false_iff_ne]; omega
          have HE4 := Lib.hid (HE3.out.trans (if_neg hq))
          clear hq
          go_wp2_with fail
          refine (HQ.out _).mono ?_
          rintro r w5 ⟨rfl, h⟩
          subst h
          go_wp2_with fail
          refine bodyPost_ret (results_row2 rfl _ _ w.heap.size 37 #[.int .i64 4, .string (s.extract 0 q), .string ByteArray.empty] (0, 0) _ rfl (set3 n2) Tryz.underlying37 rfl (by kernel_rfl)) rfl ?_
          exact ⟨by rw [HE4.out]; rfl, ((B2.out.setCell (p := ⟨w.heap.size, 0, none⟩) (Nat.le_refl _) _).setCell (p := ⟨w.heap.size, 1, none⟩) (Nat.le_refl _) _).setCell (p := ⟨w.heap.size, 2, none⟩) (Nat.le_refl _) _⟩
      · have p3 : ((s[0].toNat : Int) == 39) = false := by rw [beq_eq_false_iff_ne]; omega
        have HE3 := Lib.hid (HE2.out.trans (if_neg h39))
        clear h39 HE2 HQ
        by_cases h5 : c = 5
        · have p4 : (c == 5) = true := by simpa using h5
          have HE4 := Lib.hid (HE3.out.trans (if_pos h5))
          clear h5 HE3
          have HNw := Lib.hid (HN.out n w3 hgn)
          go_wp2_with fail
          refine HNw.out.mono ?_
          rintro r w4 ⟨rfl, hb⟩
          have n4 := (hb.block _ l2).trans n2
          have B4 := Lib.hid (B2.out.trans (hb.mono (by omega)))
          clear hb k0 k1 k2 z0 z1 z2
          generalize dNumber s n = x at *
          have k0 : w4.cell? ⟨w.heap.size, 0, none⟩ = some (.int .i64 0) := by simp [World.cell?, n4]
          have k1 : w4.cell? ⟨w.heap.size, 1, none⟩ = some (.string ByteArray.empty) := by simp [World.cell?, n4]
          have k2 : w4.cell? ⟨w.heap.size, 2, none⟩ = some (.string ByteArray.empty) := by simp [World.cell?, n4]
          have z0 : w4.frozen? ⟨w.heap.size, 0, none⟩ = false := frozen_of_row w4 _ 0 _ _ n4
          have z1 : w4.frozen? ⟨w.heap.size, 1, none⟩ = false := frozen_of_row w4 _ 1 _ _ n4
          have z2 : w4.frozen? ⟨w.heap.size, 2, none⟩ = false := frozen_of_row w4 _ 2 _ _ n4
          go_wp2_with fail
          refine bodyPost_ret (results_row2 rfl _ _ w.heap.size 37 #[.int .i64 x.kind, .string x.text, .string x.glyph] (0, 0) _ rfl (set3 n4) Tryz.underlying37 rfl (by kernel_rfl)) rfl ?_
          exact ⟨by rw [HE4.out]; rfl, ((B4.out.setCell (p := ⟨w.heap.size, 0, none⟩) (Nat.le_refl _) _).setCell (p := ⟨w.heap.size, 1, none⟩) (Nat.le_refl _) _).setCell (p := ⟨w.heap.size, 2, none⟩) (Nat.le_refl _) _⟩
        · have p4 : (c == 5) = false := by simpa using h5
          have HE4 := Lib.hid (HE3.out.trans (if_neg h5))
          clear h5 HE3
          by_cases hdg : 48 ≤ s[0].toNat ∧ s[0].toNat ≤ 57
          · have HE5 := Lib.hid (HE4.out.trans (if_pos hdg))
            have HD1 : Hid (∀ u, Calls Tryz.prog 95 #[.int .u8 (s[0].toNat : Int)] u fun r w' => r = .returned (.bool true) ∧ w' = u) := Lib.hid (fun u => (HD.out u).mono fun r w' h => ⟨by rw [h.1]; simp [hdg], h.2⟩)
            have HNw := Lib.hid (HN.out 0 w3 (Nat.zero_le _))
            clear hdg HE4 HD
            go_wp2_with fail
            refine (HD1.out _).mono ?_
            rintro r w4 ⟨rfl, h⟩
            subst h
            go_wp2_with fail
            refine HNw.out.mono ?_
            rintro r w5 ⟨rfl, hb⟩
            have n4 := (hb.block _ l2).trans n2
            have B4 := Lib.hid (B2.out.trans (hb.mono (by omega)))
            clear hb k0 k1 k2 z0 z1 z2
            generalize dNumber s 0 = x at *
            have k0 : w5.cell? ⟨w.heap.size, 0, none⟩ = some (.int .i64 0) := by simp [World.cell?, n4]
            have k1 : w5.cell? ⟨w.heap.size, 1, none⟩ = some (.string ByteArray.empty) := by simp [World.cell?, n4]
            have k2 : w5.cell? ⟨w.heap.size, 2, none⟩ = some (.string ByteArray.empty) := by simp [World.cell?, n4]
            have z0 : w5.frozen? ⟨w.heap.size, 0, none⟩ = false := frozen_of_row w5 _ 0 _ _ n4
            have z1 : w5.frozen? ⟨w.heap.size, 1, none⟩ = false := frozen_of_row w5 _ 1 _ _ n4
            have z2 : w5.frozen? ⟨w.heap.size, 2, none⟩ = false := frozen_of_row w5 _ 2 _ _ n4
            go_wp2_with fail
            refine bodyPost_ret (results_row2 rfl _ _ w.heap.size 37 #[.int .i64 x.kind, .string x.text, .string x.glyph] (0, 0) _ rfl (set3 n4) Tryz.underlying37 rfl (by kernel_rfl)) rfl ?_
            exact ⟨by rw [HE5.out]; rfl, ((B4.out.setCell (p := ⟨w.heap.size, 0, none⟩) (Nat.le_refl _) _).setCell (p := ⟨w.heap.size, 1, none⟩) (Nat.le_refl _) _).setCell (p := ⟨w.heap.size, 2, none⟩) (Nat.le_refl _) _⟩
          · have HE5 := Lib.hid (HE4.out.trans (if_neg hdg))
            have HD1 : Hid (∀ u, Calls Tryz.prog 95 #[.int .u8 (s[0].toNat : Int)] u fun r w' => r = .returned (.bool false) ∧ w' = u) := Lib.hid (fun u => (HD.out u).mono fun r w' h => ⟨by rw [h.1]; simp [hdg], h.2⟩)
            clear hdg HE4 HD HN
            go_wp2_with fail
            refine (HD1.out _).mono ?_
            rintro r w4 ⟨rfl, h⟩
            subst h
            go_wp2_with fail
            refine (HW.out _).mono ?_
            rintro r w5 ⟨rfl, h⟩
            subst h
            by_cases h20 : 20 < d
            · have p5 : (20 : Int) < (d : Int) := by omega
              have HE6 := Lib.hid (HE5.out.trans (if_pos h20))
              clear h20
              go_wp2_with fail
              refine (HW.out _).mono ?_
              rintro r w6 ⟨rfl, h⟩
              subst h
              go_wp2_with fail
              refine bodyPost_ret (results_row2 rfl _ _ w.heap.size 37 #[.int .i64 10, .string (s.extract 0 d), .string ByteArray.empty] (0, 0) _ rfl (set3 n2) Tryz.underlying37 rfl (by kernel_rfl)) rfl ?_
              exact ⟨by rw [HE6.out]; rfl, ((B2.out.setCell (p := ⟨w.heap.size, 0, none⟩) (Nat.le_refl _) _).setCell (p := ⟨w.heap.size, 1, none⟩) (Nat.le_refl _) _).setCell (p := ⟨w.heap.size, 2, none⟩) (Nat.le_refl _) _⟩
            · have p5 : ¬ (20 : Int) < (d : Int) := by omega
              have HE6 := Lib.hid (HE5.out.trans (if_neg h20))
              clear h20 HE5
              go_wp2_with fail
              refine (HW.out _).mono ?_
              rintro r w6 ⟨rfl, h⟩
              subst h
              by_cases hd0 : 0 < d
              · have p6 : (0 : Int) < (d : Int) := by omega
                have HE7 := Lib.hid (HE6.out.trans (if_pos hd0))
                clear hd0
                go_wp2_with fail
                refine (HW.out _).mono ?_
                rintro r w7 ⟨rfl, h⟩
                subst h
                go_wp2_with fail
                refine bodyPost_ret (results_row2 rfl _ _ w.heap.size 37 #[.int .i64 5, .string (s.extract 0 d), .string ByteArray.empty] (0, 0) _ rfl (set3 n2) Tryz.underlying37 rfl (by kernel_rfl)) rfl ?_
                exact ⟨by rw [HE7.out]; rfl, ((B2.out.setCell (p := ⟨w.heap.size, 0, none⟩) (Nat.le_refl _) _).setCell (p := ⟨w.heap.size, 1, none⟩) (Nat.le_refl _) _).setCell (p := ⟨w.heap.size, 2, none⟩) (Nat.le_refl _) _⟩
              · have p6 : ¬ (0 : Int) < (d : Int) := by omega
                have HE7 := Lib.hid (HE6.out.trans (if_neg hd0))
                clear hd0 HE6
                by_cases hn0 : 0 < n
                · have p7 : (0 : Int) < (n : Int) := by omega
                  have HE8 := Lib.hid (HE7.out.trans (if_pos hn0))
                  clear hn0
                  go_wp2_with fail
                  refine wp_region_ord (S := fun _ => True) [0, 2, 3, 4, 5] [1, 6, 7, 8] (by kernel_rfl) (by kernel_rfl) (fun _ _ _ _ _ h => h) trivial ?_
                  simp only [pick, List.filterMap_cons, List.filterMap_nil, List.getElem?_toArray, List.getElem?_cons_zero, List.getElem?_cons_succ]
                  repeat (refine wpHead_step (v := ?_) rfl ?_ ?_; rotate_left; (focus (rintro w1 _; go_simp; try with_reducible rfl)); simp only [Act.put, List.setIfInBounds_toArray, List.set_cons_zero, List.set_cons_succ])
                  refine wpHead_nil ?_
                  refine wpTail_step rfl (fun K hK => ?_)
                  go_wp2_with fail
                  refine (HKd.out _).mono ?_
                  rintro r w7 ⟨rfl, rfl⟩
                  go_wp2_with fail
                  refine hK _ _ trivial ?_
                  clear hK K
                  try simp only [Act.put, List.setIfInBounds_toArray, List.set_cons_zero, List.set_cons_succ]
                  refine wpTail_step rfl (fun K hK => ?_)
                  go_wp2_with fail
                  refine hK _ _ trivial ?_
                  clear hK K
                  try simp only [Act.put, List.setIfInBounds_toArray, List.set_cons_zero, List.set_cons_succ]
                  refine wpTail_step rfl (fun K hK => ?_)
                  go_wp2_with fail
                  refine hK _ _ trivial ?_
                  clear hK K
                  try simp only [Act.put, List.setIfInBounds_toArray, List.set_cons_zero, List.set_cons_succ]
                  refine wpTail_step rfl (fun K hK => ?_)
                  go_wp2_with fail
                  refine hK _ _ trivial ?_
                  clear hK K
                  try simp only [Act.put, List.setIfInBounds_toArray, List.set_cons_zero, List.set_cons_succ]
                  refine wpTail_nil ?_
                  go_wp2_with fail
                  refine bodyPost_ret (results_row2 rfl _ _ w.heap.size 37 #[.int .i64 (dKind c), .string (s.extract 0 n), .string g] (0, 0) _ rfl (set3 n2) Tryz.underlying37 rfl (by kernel_rfl)) rfl ?_
                  exact ⟨by rw [HE8.out]; rfl, (((B2.out.setCell (p := ⟨w.heap.size, 0, none⟩) (Nat.le_refl _) _).setCell (p := ⟨w.heap.size, 1, none⟩) (Nat.le_refl _) _).setCell (p := ⟨w.heap.size, 2, none⟩) (Nat.le_refl _) _).drew⟩
                · have p7 : ¬ (0 : Int) < (n : Int) := by omega
                  have HE8 := Lib.hid (HE7.out.trans (if_neg hn0))
                  clear hn0 HE7
                  go_wp2_with fail
                  refine (HS.out _).mono ?_
                  rintro r w7 ⟨rfl, h⟩
                  subst h
                  go_wp2_with fail
                  refine bodyPost_ret (results_row2 rfl _ _ w.heap.size 37 #[.int .i64 10, .string (s.extract 0 st), .string ByteArray.empty] (0, 0) _ rfl (set3 n2) Tryz.underlying37 rfl (by kernel_rfl)) rfl ?_
                  exact ⟨by rw [HE8.out]; rfl, ((B2.out.setCell (p := ⟨w.heap.size, 0, none⟩) (Nat.le_refl _) _).setCell (p := ⟨w.heap.size, 1, none⟩) (Nat.le_refl _) _).setCell (p := ⟨w.heap.size, 2, none⟩) (Nat.le_refl _) _⟩
end Go.Proofs.YtebejlnegalokaaGreatDoor.Lz.Rf
/-
  XRfF, turned: what this seat needs of it.
-/
namespace Go.Proofs.YtebejlnegalokaaGreatDoor.Lz.Rf
open Go.RowKit
set_option maxRecDepth 100000 in
set_option maxHeartbeats 4000000 in
theorem line_full (s : ByteArray) (w : World) (hs : s.size ≤ 8000) :
    Calls Tryz.prog 43 #[.string s] w fun e w' => GivesT (dLine s) e w w' := by
  obtain ⟨i0, hi0, hz0, hz1, hz2⟩ := info_parts infoTok
  have HF := Lib.hid first_full
  go_enter Tryz.func43, Tryz.ntmps43
  go_wp2
  go_loopw [0, 3] (fun t v wr => ∃ (u : ByteArray) (done : List Tok), t = .string u ∧ u.size ≤ 8000 ∧ done.length + u.size ≤ 8000 ∧ Hid (done ++ dLine u = dLine s) ∧
      wr.ownsRow w.heap.size 37 3 v done.length (tokCells done) ∧ Below w.heap.size w wr)
    (fun t _ _ => match t with | .string u => u.size | _ => 0)
  case atStart => exact ⟨s, [], rfl, hs, by simpa using hs, Lib.hid (by simp), World.ownsRow_nil _ _ _ _, Below.refl _ _⟩
  case round =>
    obtain ⟨u, done, rfl, hu, hdn, Hdone, hown, hb⟩ := hrel
    by_cases he : u.size = 0
    · have hue : u = noText := ByteArray.size_eq_zero_iff.1 he
      have hd2 : done = dLine s := by rw [← Hdone.out, hue, dLine_nil, List.append_nil]
      have Hd := Lib.hid hd2
      have q := Go.Proofs.YtebejlnegalokaaGreatDoor.Lz.empty_is he
      clear Hdone hd2 he hue
      go_wp2_with fail
      go_ret
      obtain ⟨B, d, rfl, _, hH, hcap⟩ := holdsT_of_own hown
      rw [Hd.out] at hH hcap
      exact ⟨B, d, by rw [← Hd.out]; rfl, hH, hcap, hb⟩
    · have h1 : 0 < u.size := by omega
      have h5 := dLine_cons h1
      have h6 := rest_less h1
      obtain ⟨k, k1, k2, kt, _⟩ := first_begins h1
      have h3 : (dFirst u).text.size ≤ u.size := by rw [kt, ext_size]; omega
      unfold restOf at h5 h6
      have hdone := Hdone.out
      rw [h5] at hdone
      have q := Go.Proofs.YtebejlnegalokaaGreatDoor.Lz.empty_not h1
      have HF1 := Lib.hid (HF.out u wr (by omega) h1)
      obtain ⟨x, hx⟩ : ∃ x, dFirst u = x := ⟨_, rfl⟩
      rw [hx] at HF1 h3 h6 hdone
      obtain ⟨u2, hu2⟩ : ∃ u2, u.extract x.text.size u.size = u2 := ⟨_, rfl⟩
      rw [hu2] at h6 hdone
      have Hd : Hid ((done ++ [x]) ++ dLine u2 = dLine s) := Lib.hid (by rw [← hdone]; simp)
      clear hdone Hdone h5 hx HF he kt k1 k2 k
      have l1 : (x.text.size : Int) ≤ (u.size : Int) := by omega
      go_wp2_with fail
      refine HF1.out.mono ?_
      rintro r w1 ⟨rfl, hb1⟩
      have hown1 : w1.ownsRow w.heap.size 37 3 u3 done.length (tokCells done) := own_below hown hb1
      have B1 := Lib.hid (hb.trans (hb1.mono hb.size))
      have lo := ownBlock_lt hown1
      have ge := ownBlock_ge hown1
      have lw := B1.out.size
      clear hb1 hown hb HF1
      go_wp2_with (at_builtin; refine wpList_append_own _ rfl _ _ 34 rfl w.heap.size 37 i0 _ 3 40 Tryz.underlying34 hi0 hz0 hz1 hz2 rfl (by decide) u3 done.length (tokCells done) rfl ((hown1.alloc _).alloc _) ⟨w1.heap.size + 1, 0, none⟩ 1 1 x.cells rfl rfl (World.news_of_block (cs := x.cells.toArray) (t := 37) (fr := (0, 0)) (by have := heap_alloc_new (w1.alloc (.cells #[.int .i64 x.kind, .string x.text, .string x.glyph] 37)) (.cells x.cells.toArray 37); simpa [Tok.cells] using this)) (by simp [Tok.cells, Value.oneCell']) (by unfold maxLen; omega) (by omega) (by simp; omega) ?_; intro v' w2 hown2 hgrow2 _; have hc1 := hgrow2.cell_far ⟨w1.heap.size, 1, none⟩ (by simp; omega) (by intro e; have := lo _ e.symm; simp at this))
      rw [← tokCells_one, ← tokCells_append] at hown2
      go_roundw
      case rel => exact ⟨u2, done ++ [x], rfl, by omega, by simp; omega, Hd, by simpa using hown2, ((B1.out.alloc (by omega) _).alloc (by simp; omega) _).grown hgrow2 (by simp; omega) ge⟩
      case measure => show u2.size < u.size; omega
end Go.Proofs.YtebejlnegalokaaGreatDoor.Lz.Rf
