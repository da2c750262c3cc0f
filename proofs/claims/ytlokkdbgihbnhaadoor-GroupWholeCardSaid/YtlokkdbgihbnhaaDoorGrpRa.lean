/-
  Depths, by the document's program text.
-/
import Derived.Test.YtlokkdbgihbnhaaDoorProg
import Derived.Test.YtlokkdbgihbnhaaDoorReg
import Derived.WalkKit
import Derived.WalkSpells
import Derived.WalkLawsBesides
import Derived.Lib.Hide
import Derived.Lib.MinMax
import Derived.Deep.QuietTactic
import Derived.BigQuiet
import Derived.OwnWalk
import Derived.Deep.AppendLies
import Derived.KernelRfl
import Derived.ArgAppend
import Derived.Maps.AppendAt
import Derived.Laws.Rows
import Derived.Test.YtlokkdbgihbnhaaDoorGrpN
set_option linter.unusedSimpArgs false
set_option linter.unusedVariables false
namespace Go.Proofs.YtlokkdbgihbnhaaDoor
open Go.RowKit

structure RDeepAt (l : List Tok) (w0 wr : World) (o : Value) (d : Int) (k : Nat) (s : Brs) : Prop where
  le : k ≤ l.length
  run : Brs.none0.run (brs (l.take k)) = some s
  out : wr.ownsRow w0.heap.size 3 1 o k (intCells (s.deeps.map (fun (d : Nat) => (d : Int))))
  deep : d = s.stack.length
  low : Below w0.heap.size w0 wr

theorem step_close {s t : Brs} {b : Bool} (h : s.step (some (false, b)) = some t) : ∃ q r, s.stack = (q, b) :: r ∧ t.stack = r ∧ t.deeps = s.deeps ++ [r.length] := by
  cases hs : s.stack with
  | nil => simp [Brs.step, hs] at h
  | cons x r =>
    obtain ⟨q, c⟩ := x
    simp only [Brs.step, hs] at h
    split at h
    · rename_i hc
      subst hc
      cases h
      exact ⟨q, r, rfl, rfl, rfl⟩
    · cases h

theorem deeps_snoc (D : List Nat) (d : Nat) : intCells ((D ++ [d]).map (fun (d : Nat) => (d : Int))) = intCells (D.map (fun (d : Nat) => (d : Int))) ++ [.int .i64 (d : Int)] := by simp [intCells]

set_option maxRecDepth 100000 in
set_option maxHeartbeats 8000000 in
theorem rdeep_any (A : Option Addr) (c : Nat) (l : List Tok) (w : World) (hl : mildT l) (hh : HoldsT w A l) :
    Calls Tryd.prog 14 #[.slice A l.length c] w (TellsI w (deepOf l) (codeOf l)) := by
  obtain ⟨i0, hi0, hz0, hz1, hz2⟩ := info_parts infoInt
  have HM := Lib.hid (fun u hu => rmatch_any A c l u hl hu)
  obtain ⟨hl1, hl2⟩ := hl
  have HO := Lib.hid ropens_any
  have HC := Lib.hid rcloses_any
  go_enter Tryd.func14, Tryd.ntmps14
  go_wp2_with fail
  refine (HM.out _ hh).mono ?_
  rintro r w1 ⟨B1, d1, rfl, -, hb1⟩
  by_cases h0 : codeOf l = 0
  · have hrun := (codeOf_ok h0).1
    have hd := deepOf_yes h0
    have Hd := Lib.hid hd
    have Hrun := Lib.hid hrun
    have HB := Lib.hid hb1
    have H0 := Lib.hid h0
    rw [h0]
    clear hd hrun hb1 h0 HM
    go_wp2_with fail
    go_loopw [6, 7, 8] (fun o d i wr => ∃ (k : Nat) (dp : Int) (s : Brs), i = .int .i64 k ∧ d = .int .i64 dp ∧ RDeepAt l w wr o dp k s)
      (fun _ _ i _ => l.length - (intOf i).toNat)
    case atStart => exact ⟨0, 0, .none0, rfl, rfl, by omega, rfl, World.ownsRow_nil _ _ _ _, rfl, HB.out⟩
    case round =>
      obtain ⟨k, dp, s, rfl, rfl, hle, hrun, hout, rfl, hlow⟩ := hrel
      by_cases hlt : k < l.length
      · have hx : l[k]? = some l[k] := List.getElem?_eq_getElem hlt
        have hR := run_snoc hx
        rw [hrun] at hR
        obtain ⟨t, ht⟩ := run_some Hrun.out (k + 1)
        rw [ht] at hR
        have hstep := hR.symm
        simp only [Option.bind_some] at hstep
        have hlens := run_lens hrun hle
        have HT := Lib.hid (fun (u : World) (hb : Below w.heap.size w u) => (hh.below hb) k l[k] hx)
        generalize l[k] = x at *
        have Ht := Lib.hid ht
        have Hout := Lib.hid hout
        have Hlow := Lib.hid hlow
        have hsz := hlow.size
        obtain ⟨h1, h2, h3, h4, h5⟩ := hlens
        have geo := ownBlock_ge hout
        obtain ⟨b, off, rfl, c1, c2, c3⟩ := HT.out wr hlow
        have lt1 := cell_lt c1
        clear hR hrun hx ht hout hlow
        go_wp2_with fail
        refine (HC.out x _).mono ?_
        rintro r w2 ⟨rfl, hb⟩
        have hout2 := Lib.hid (own_below Hout.out hb)
        have hlow2 := Lib.hid (Hlow.out.trans (hb.mono hsz))
        obtain ⟨b', off', e', c1', c2', c3'⟩ := HT.out w2 hlow2.out
        cases e'
        clear hb c1 c2 c3 lt1 Hout Hlow
        have lt2 := cell_lt c1'
        have hsz2 := hlow2.out.size
        rcases br_ways x with ⟨hb0, ho, hcl, -⟩ | ⟨kb, hb0, ho, hcl, -⟩ | ⟨kb, hb0, ho, hcl, -⟩
        · rw [hb0] at hstep
          simp only [Brs.step, Option.some.injEq] at hstep
          have HS := Lib.hid hstep
          have HO1 := Lib.hid (HO.out x)
          rw [ho] at HO1
          rw [hcl]
          clear hstep
          go_wp2_with (at_builtin; refine wpList_append_own _ rfl _ _ 25 rfl w.heap.size 3 i0 _ 1 8 Tryd.underlying25 hi0 hz0 hz1 hz2 rfl (by decide) u6 k _ rfl (hout2.out.alloc _) ⟨w2.heap.size, 0, none⟩ 1 1 [.int .i64 s.stack.length] rfl rfl (cell_one_new _ _ _) (by simp [Value.oneCell']) (by unfold maxLen; omega) (by omega) (by simp; omega) ?_; intro v1 w3 hout3 hg3 _; have hlow3 : Hid (Below w.heap.size w w3) := Lib.hid ((hlow2.out.alloc hsz2 _).grown hg3 (by simp; omega) geo); obtain ⟨b4, off4, e4, d1, d2, d3⟩ := HT.out w3 hlow3.out; cases e4; have lt3 := cell_lt d1)
          refine (HO1.out _).mono ?_
          rintro r w4 ⟨rfl, hb⟩
          go_wp2_with fail
          go_roundw
          case rel => exact ⟨k + 1, _, t, by go_num, rfl, by omega, Ht.out, by rw [← HS.out, deeps_snoc]; exact own_below hout3 hb, by rw [← HS.out], hlow3.out.trans (hb.mono hlow3.out.size)⟩
          case measure => simp [intOf]; omega
        · rw [hb0] at hstep
          simp only [Brs.step, Option.some.injEq] at hstep
          have HS := Lib.hid hstep
          have HO1 := Lib.hid (HO.out x)
          rw [ho] at HO1
          rw [hcl]
          clear hstep
          go_wp2_with (at_builtin; refine wpList_append_own _ rfl _ _ 25 rfl w.heap.size 3 i0 _ 1 8 Tryd.underlying25 hi0 hz0 hz1 hz2 rfl (by decide) u6 k _ rfl (hout2.out.alloc _) ⟨w2.heap.size, 0, none⟩ 1 1 [.int .i64 s.stack.length] rfl rfl (cell_one_new _ _ _) (by simp [Value.oneCell']) (by unfold maxLen; omega) (by omega) (by simp; omega) ?_; intro v1 w3 hout3 hg3 _; have hlow3 : Hid (Below w.heap.size w w3) := Lib.hid ((hlow2.out.alloc hsz2 _).grown hg3 (by simp; omega) geo); obtain ⟨b4, off4, e4, d1, d2, d3⟩ := HT.out w3 hlow3.out; cases e4; have lt3 := cell_lt d1)
          refine (HO1.out _).mono ?_
          rintro r w4 ⟨rfl, hb⟩
          go_wp2_with fail
          go_roundw
          case rel => exact ⟨k + 1, _, t, by go_num, rfl, by omega, Ht.out, by rw [← HS.out, deeps_snoc]; exact own_below hout3 hb, by rw [← HS.out]; simp, hlow3.out.trans (hb.mono hlow3.out.size)⟩
          case measure => simp [intOf]; omega
        · rw [hb0] at hstep
          obtain ⟨q, rr, e1, e2, e3⟩ := step_close hstep
          have hsl : s.stack.length = rr.length + 1 := by rw [e1]; rfl
          have E2 := Lib.hid e2
          have E3 := Lib.hid e3
          have HO1 := Lib.hid (HO.out x)
          rw [ho] at HO1
          rw [hcl]
          have e5 : IntKind.i64.wrap ((s.stack.length : Int) - 1) = (rr.length : Int) := by rw [IntWalk.i64_in] <;> omega
          have e6 : (s.stack.length : Int) - 1 = (rr.length : Int) := by omega
          have e7 : IntKind.i64.wrap (rr.length : Int) = (rr.length : Int) := by rw [IntWalk.i64_in] <;> omega
          clear hstep e1 e2 e3
          go_wp2_with (at_builtin; refine wpList_append_own _ rfl _ _ 25 rfl w.heap.size 3 i0 _ 1 8 Tryd.underlying25 hi0 hz0 hz1 hz2 rfl (by decide) u6 k _ rfl (hout2.out.alloc _) ⟨w2.heap.size, 0, none⟩ 1 1 [.int .i64 rr.length] rfl rfl (cell_one_new _ _ _) (by simp [Value.oneCell']) (by unfold maxLen; omega) (by omega) (by simp; omega) ?_; intro v1 w3 hout3 hg3 _; have hlow3 : Hid (Below w.heap.size w w3) := Lib.hid ((hlow2.out.alloc hsz2 _).grown hg3 (by simp; omega) geo); obtain ⟨b4, off4, e4, d1, d2, d3⟩ := HT.out w3 hlow3.out; cases e4; have lt3 := cell_lt d1)
          refine (HO1.out _).mono ?_
          rintro r w4 ⟨rfl, hb⟩
          go_wp2_with fail
          go_roundw
          case rel => exact ⟨k + 1, _, t, by go_num, rfl, by omega, Ht.out, by rw [E3.out, deeps_snoc]; exact own_below hout3 hb, by rw [E2.out], hlow3.out.trans (hb.mono hlow3.out.size)⟩
          case measure => simp [intOf]; omega
      · obtain rfl : k = l.length := by omega
        rw [List.take_of_length_le (Nat.le_refl _)] at hrun
        have hbr := (code_end hrun).2
        have Hbr := Lib.hid hbr
        clear hbr hrun
        go_wp2
        go_ret2
        obtain ⟨B, d, rfl, hn, hH, hcap⟩ := holdsI_of_own hout
        have e : deepOf l = s.deeps.map (fun (d : Nat) => (d : Int)) := by rw [Hd.out, Hbr.out]
        exact TellsI.mk B d _ (by rw [e]) H0.out.symm (by rw [e]; exact hH) hlow
  · have q1 : (codeOf l == 0) = false := by simpa using h0
    have q2 : (codeOf l != 0) = true := by rw [bne, q1]; rfl
    have hd := Lib.hid (deepOf_no h0)
    clear h0
    go_wp2_with fail
    go_ret2
    exact TellsI.mk none 0 0 (by rw [hd.out]; rfl) rfl (by rw [hd.out]; exact HoldsI.nil _ _) hb1
end Go.Proofs.YtlokkdbgihbnhaaDoor
