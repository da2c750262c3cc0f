/-
  XGrpJb, turned: what this seat needs of it.
-/
import Derived.Test.YtebejlnegalokaaGreatDoorProg
import Derived.Test.YtebejlnegalokaaGreatDoorReg
import Derived.WalkKit
import Derived.WalkSpells
import Derived.WalkLawsBesides
import Derived.Lib.Hide
import Derived.Lib.MinMax
import Derived.Deep.QuietTactic
import Derived.BigQuiet
import Derived.OwnWalk
import Derived.Deep.AppendLies
import Derived.KernelRfl
import Derived.Test.YtebejlnegalokaaGreatDoorReg
import Derived.WalkKit
import Derived.Below
import Derived.Laws.OwnMore
import Derived.Deep.Draws
import Derived.Deep.AppendLies
import Derived.ChangeMaps5
import Derived.Deep.Slices
import Derived.WideShapes
import Derived.Test.YtebejlnegalokaaGreatDoorBytes
import Derived.LaidEql
import Derived.Stop.Asserts
import Derived.RowKitTokens
import Derived.Test.YtebejlnegalokaaGreatDoorMap
import Derived.ArgAppend
import Derived.Laws.Rows
import Derived.Deep.RegionLaw
import Derived.Maps.AppendAt
import Derived.WalkSmall
import Derived.OneCell
import Derived.Test.YtebejlnegalokaaGreatDoorRegG
import Derived.RangeFuncNested
import Derived.RangeFuncBound
import Derived.RangeFuncCalls
import Derived.RangeFuncLeaves
import Derived.RangeFuncBox
import Derived.Shelf.Abstract
import Derived.Test.YtebejlnegalokaaGreatDoorKeep
import Derived.Test.YtebejlnegalokaaGreatDoorJoint
import Derived.OwnWalkIn
import Derived.TacticsInMore
import Derived.LoopNIn
import Derived.LoopIn
import Derived.Deep.Cut
import Derived.Test.YtebejlnegalokaaGreatDoorRegIn
import Derived.Test.YtebejlnegalokaaGreatDoorGzM3
import Derived.Maps.OwnIn
set_option linter.unusedSimpArgs false
set_option linter.unusedVariables false
namespace Go.Proofs.YtebejlnegalokaaGreatDoor.Gz
open Go Go.RowKit
def deepsOf (s : Brs) : List Int := s.deeps.map (fun (d : Nat) => (d : Int))
def pairsOf (l : List Tok) (k : Nat) (s : Brs) : List Int := s.pairs ++ List.replicate (l.length - k) (-1)
def wrongV (p : Int) (bq : Addr) : Value := .iface 177 (.agg #[.int .i64 60, .int .i64 p, .iface 216 (.pointer (some bq))])
theorem deepsOf_len (s : Brs) : (deepsOf s).length = s.deeps.length := by simp [deepsOf]
theorem pairsOf_succ {l : List Tok} {k : Nat} {s t : Brs} (hk : k < l.length) (ht : t.pairs = s.pairs ++ [-1]) : pairsOf l k s = pairsOf l (k + 1) t := by
  unfold pairsOf
  have e : l.length - k = (l.length - (k + 1)) + 1 := by omega
  rw [ht, e, List.replicate_succ]
  simp
theorem deepsOf_snoc {a : List (Nat × Bool)} {p : List Int} {D : List Nat} {d m : Nat} : deepsOf ⟨a, p, D ++ [d], m⟩ = D.map (fun (d : Nat) => (d : Int)) ++ [(d : Int)] := by simp [deepsOf]
theorem pairsOf_len {l : List Tok} {k : Nat} {s : Brs} (hk : k < l.length) (h : s.pairs.length = k) : (pairsOf l k s).length = l.length := by
  unfold pairsOf
  simp
  omega
theorem pairsOf_close {l : List Tok} {k q m : Nat} {s : Brs} {st : List (Nat × Bool)} {D : List Nat} (hk : k < l.length) (h : s.pairs.length = k) (hq : q < k) : ((pairsOf l k s).set q (k : Int)).set k (q : Int) = pairsOf l (k + 1) ⟨st, s.pairs.set q s.pairs.length ++ [(q : Int)], D, m⟩ := by
  unfold pairsOf
  have e : l.length - k = (l.length - (k + 1)) + 1 := by omega
  simp only [e, List.replicate_succ]
  rw [List.set_append_left _ _ (by omega), List.set_append_right _ _ (by simp; omega), h]
  simp [h]
structure StepAt (l : List Tok) (w0 : World) (A : Option Addr) (c a Bm Bd : Nat) (L D : Nat) (r : Loop) (k : Nat) (s : Brs) (sv pv dv : Value) (wr : World) : Prop where
  le : k ≤ l.length
  run : Brs.none0.run (brs (l.take k)) = some s
  mat : MatC l w0 A c a Bm Bd sv pv dv (stackOf s) (pairsOf l k s) (deepsOf s) s.most .nilIface wr
  books : Books L D r wr
theorem StepAt.next {l : List Tok} {w0 : World} {A : Option Addr} {c a Bm Bd L D : Nat} {r : Loop} {k : Nat} {t : Brs} {sv pv dv : Value} {wr : World} {s2 p2 d2 : List Int} {m2 : Int} (hk : k ≤ l.length) (hr : Brs.none0.run (brs (l.take k)) = some t)
    (hm : MatC l w0 A c a Bm Bd sv pv dv s2 p2 d2 m2 .nilIface wr) (hs : s2 = stackOf t) (hp : p2 = pairsOf l k t) (hd : d2 = deepsOf t) (hm2 : m2 = t.most) (hb : Books L D r wr) : StepAt l w0 A c a Bm Bd L D r k t sv pv dv wr := by
  subst hs hp hd hm2
  exact ⟨hk, hr, hm, hb⟩
/-- What the steps leave. -/
def Stepped (l : List Tok) (w0 : World) (A : Option Addr) (c a Bm Bd : Nat) (bq : Addr) (W : World) : Prop :=
  (∃ s sv pv dv, Brs.none0.run (brs l) = some s ∧ MatC l w0 A c a Bm Bd sv pv dv (stackOf s) s.pairs (deepsOf s) s.most .nilIface W) ∨
  (Brs.none0.run (brs l) = none ∧ ∃ sv pv dv stk prs ds mo p, MatC l w0 A c a Bm Bd sv pv dv stk prs ds mo (wrongV p bq) W)
set_option maxRecDepth 100000 in
set_option maxHeartbeats 8000000 in
theorem steps1_any (n : Nat) (hn : 1 ≤ n) (l : List Tok) (w0 W : World) (A : Option Addr) (c a Bm Bd L D : Nat) (r : Loop) (pv : Value) (bq : Addr) (hl : mildT l) (hh : HoldsT w0 A l)
    (hg : w0.cell? ⟨3, 0, none⟩ = some (.iface 216 (.pointer (some bq))))
    (hM : MatC l w0 A c a Bm Bd (.slice none 0 0) pv (.slice none 0 0) [] (List.replicate l.length (-1)) [] 0 .nilIface W) (hB : Books L D r W)
    (hY : ∀ sv pv dv stk prs ds mo ev W i d, MatC l w0 A c a Bm Bd sv pv dv stk prs ds mo ev W → Books L D r W → ds.length < l.length →
      YieldAt Fence.wide n Tryz.prog L #[.int .i64 i, .int .i64 d] W fun e W' => e = .returned (.bool true) ∧ Books L D r W' ∧ ∃ dv', MatC l w0 A c a Bm Bd sv pv dv' stk prs (ds ++ [d]) mo ev W') :
    Calls Tryz.prog 124 #[.func (.yield L) #[] #[], .pointer (some ⟨Bm, 0, none⟩)] W fun e W' => (∃ v, e = .returned v) ∧ Books L D r W' ∧ Stepped l w0 A c a Bm Bd bq W' := by
  obtain ⟨hl1, hl2⟩ := hl
  have HY := Lib.hid hY
  have HO := Lib.hid (fun x u hx => opens_any x u hx)
  have HK := Lib.hid (fun x u hx => isBracket_any x u hx)
  clear hY
  have cm := hM.bm.cell
  have c1 := hM.c1
  go_enter Tryz.func124, Tryz.ntmps124
  go_wp2
  go_step3
  go_wp2
  go_step3
  go_wp2
  go_loopw [16] (fun i wr => ∃ (k : Nat) (s : Brs) (sv pv dv : Value), i = .int .i64 k ∧ StepAt l w0 A c a Bm Bd L D r k s sv pv dv wr)
    (fun i _ => l.length - (intOf i).toNat)
  case atStart => exact ⟨0, .none0, _, pv, _, rfl, by omega, rfl, hM, hB⟩
  case round =>
    obtain ⟨k, s, sv, pv, dv, rfl, hle, hrun, hmat, hbooks⟩ := hrel
    by_cases hlt : k < l.length
    · have hx : l[k]? = some l[k] := List.getElem?_eq_getElem hlt
      have hR := run_snoc hx
      rw [hrun] at hR
      have hlens := run_lens hrun hle
      have HT := Lib.hid (fun (u : World) (hb : Below w0.heap.size w0 u) => (hh.below hb) k l[k] hx)
      have HS := Lib.hid (fun q b r (h : s.stack = (q, b) :: r) => top_open hrun h)
      have hgl := (hl2 k _ hx).2
      generalize l[k] = x at *
      have HR := Lib.hid hR
      clear hR hrun hx cm c1
      have cm := hmat.bm.cell
      have c1 := hmat.c1
      have c0 := hmat.c0
      have la := hmat.la
      have lm := hmat.bm.lt
      obtain ⟨h1, h2, h3, h4, h5⟩ := hlens
      obtain ⟨b, off, rfl, d1, d2, d3⟩ := HT.out wr hmat.low
      have lb := cell_lt d1
      obtain ⟨S0, c5, rfl⟩ := owns_slice hmat.stk
      rw [stackOf_len] at c0
      have HM := Lib.hid hmat
      have HB := Lib.hid hbooks
      clear hmat hbooks
      have HO1 := Lib.hid (fun u => HO.out x u (by unfold maxLen; omega))
      unfold opensOut at HO1
      have HK1 := Lib.hid (fun u => HK.out x u (by unfold maxLen; omega))
      change Hid (∀ u, Calls _ _ _ u fun r w' => r = .returned (.tuple #[_, .bool x.ok]) ∧ _) at HO1
      unfold Tok.val at HO1 HK1
      generalize (closeOf x.glyph).getD ByteArray.empty = cl at HO1
      go_wp2_with fail
      refine (HO1.out _).mono ?_
      rintro r' w2 ⟨rfl, hb⟩
      have hnx : Hid (w2.heap[wr.heap.size]? = some (.cells #[.int .i64 x.kind, .string x.text, .string x.glyph] 37 (0, 0))) := Lib.hid ((hb.block _ (by simp)).trans (heap_alloc_new wr _))
      have HM2 := Lib.hid ((HM.out.alloc _).below hb)
      have HB2 := Lib.hid (((HB.out.kept (KeepsOthers.alloc _ _))).kept (others_of_below hb))
      clear hb HO1 HM HB cm c1 c0 d1 d2 d3 la lm lb
      have cm := HM2.out.bm.cell
      have cx0 : w2.cell? ⟨wr.heap.size, 0, none⟩ = some (.int .i64 x.kind) := by simp [World.cell?, hnx.out]
      have cx1 : w2.cell? ⟨wr.heap.size, 1, none⟩ = some (.string x.text) := by simp [World.cell?, hnx.out]
      have cx2 : w2.cell? ⟨wr.heap.size, 2, none⟩ = some (.string x.glyph) := by simp [World.cell?, hnx.out]
      rcases br_ways x with ⟨hb0, -, -, hbk, hok⟩ | ⟨kb, hb0, -, -, hbk, hok, -⟩ | ⟨kb, hb0, -, -, hbk, hok, hgl2⟩
      · have hst : Hid (Brs.none0.run (brs (l.take (k + 1))) = some ⟨s.stack, s.pairs ++ [-1], s.deeps ++ [s.stack.length], s.most⟩) := Lib.hid (by rw [HR.out, hb0]; rfl)
        rw [hok]
        rw [hbk] at HK1
        go_wp2_with fail
        refine (HK1.out _).mono ?_
        rintro r' w3 ⟨rfl, hb⟩
        have HM3 := Lib.hid (HM2.out.below hb)
        have HB3 := Lib.hid (HB2.out.kept (others_of_below hb))
        clear hb HK1 HM2 HB2 cm cx0 cx1 cx2 hnx
        obtain ⟨fn, tmps, assign, body, hy, hR⟩ := HY.out _ _ _ _ _ _ _ _ w3 (k : Int) (s.stack.length : Int) HM3.out HB3.out (by rw [deepsOf_len]; omega)
        have HRo := Lib.hid hR
        clear hR
        go_upto_region 17 with fail
        refine (wpIn_wide (n := n + 1)).1 ?_
        gi_wp2_with fail
        refine HRo.out.mono ?_
        rintro e w4 ⟨rfl, hB4, dv', hM4⟩
        gi_wp2_with fail
        go_wp2_with fail
        go_roundw
        case rel => exact ⟨k + 1, _, _, _, _, by go_num, StepAt.next (by omega) hst.out hM4 rfl (pairsOf_succ hlt rfl) deepsOf_snoc.symm rfl hB4⟩
        case measure => simp [intOf]; omega
      · have hst : Hid (Brs.none0.run (brs (l.take (k + 1))) = some ⟨(s.pairs.length, kb) :: s.stack, s.pairs ++ [-1], s.deeps ++ [s.stack.length], max s.most (s.stack.length + 1)⟩) := Lib.hid (by rw [HR.out, hb0]; rfl)
        rw [hok]
        have lw2 := HM2.out.low.size
        have ltp := ownBlock_lt HM2.out.prs
        have ltd := ownBlock_lt HM2.out.dps
        have c0 := HM2.out.c0
        rw [stackOf_len] at c0
        have fz := HM2.out.fz 0
        have lm := HM2.out.bm.lt
        have la := HM2.out.la
        have HP : Hid (Calls Tryz.prog 125 #[.pointer (some ⟨a, 0, none⟩), .slice (some ⟨w2.heap.size, 0, none⟩) 1 1] (w2.alloc (.cells #[.int .i64 (k : Int)] 3)) fun e w' => e = .returned (.tuple #[]) ∧
            ∃ v, MatC l w0 (some ⟨b, off, none⟩) c a Bm Bd v pv dv (stackOf s ++ [(k : Int)]) (pairsOf l k s) (deepsOf s) s.most .nilIface w' ∧ Books L D r w' ∧ ∃ A' c', v = .slice A' (s.stack.length + 1) c') := Lib.hid (by
          have hs2 := (HM2.out.alloc (.cells #[.int .i64 (k : Int)] 3))
          have hk2 := HB2.out.kept (KeepsOthers.alloc w2 (.cells #[.int .i64 (k : Int)] 3))
          have hpb : (w2.alloc (.cells #[.int .i64 (k : Int)] 3)).cell? ⟨w2.heap.size, 0, none⟩ = some (.int .i64 k) := by simp
          have fin : ∀ (W1 : World) (v : Value) (m : Nat), m = s.stack.length + 1 → (w2.alloc (.cells #[.int .i64 (k : Int)] 3)).grownBy W1 none → W1.ownsRow (w2.alloc (.cells #[.int .i64 (k : Int)] 3)).heap.size 3 1 v m (intCells (stackOf s ++ [(k : Int)])) →
              ∃ v', MatC l w0 (some ⟨b, off, none⟩) c a Bm Bd v' pv dv (stackOf s ++ [(k : Int)]) (pairsOf l k s) (deepsOf s) s.most .nilIface (W1.setCell ⟨a, 0, none⟩ v) ∧ Books L D r (W1.setCell ⟨a, 0, none⟩ v) ∧ ∃ A' c', v' = .slice A' (s.stack.length + 1) c' := by
            intro W1 v m hm hg hv
            subst hm
            have hbw : Below (w2.alloc (.cells #[.int .i64 (k : Int)] 3)).heap.size (w2.alloc (.cells #[.int .i64 (k : Int)] 3)) W1 := ⟨hg.os, hg.tape, hg.output, hg.size, fun j hj => hg.block j hj (by simp)⟩
            have hv2 : W1.ownsRow w0.heap.size 3 1 v (stackOf s ++ [(k : Int)]).length (intCells (stackOf s ++ [(k : Int)])) := by
              have e : (stackOf s ++ [(k : Int)]).length = s.stack.length + 1 := by simp [stackOf_len]
              rw [e]
              exact own_mono hv (by simp; omega)
            have gv2 := ownBlock_ge hv
            obtain ⟨A', c', hvv⟩ := owns_slice hv
            refine ⟨v, (hs2.below hbw).setStack v _ hv2 (fun j hj he => ?_) (fun j hj he => ?_), (hk2.kept (others_of_below hbw)).kept (KeepsOthers.setCell _ _ _), A', c', hvv⟩
            · have := ltp j hj
              have := gv2 j he
              simp at this
              omega
            · have := ltd j he
              have := gv2 j hj
              simp at this
              omega
          have c0' : (w2.alloc (.cells #[.int .i64 (k : Int)] 3)).cell? ⟨a, 0, none⟩ = some (.slice S0 s.stack.length c5) := (World.cell?_alloc_lt _ _ _ la).trans c0
          have fz' : (w2.alloc (.cells #[.int .i64 (k : Int)] 3)).frozen? ⟨a, 0, none⟩ = false := hs2.fz 0
          have h9 := hs2.stk
          rw [stackOf_len] at h9
          rcases h9.2 with ⟨hnil, hz⟩ | ⟨g, cap, cur, hsl, _, _, hcap, _⟩
          · have hs0 : stackOf s = [] := List.eq_nil_of_length_eq_zero (by rw [stackOf_len]; exact hz)
            rw [hnil] at c0'
            refine (push_nil a 0 w2.heap.size k _ c0' fz' hpb).mono ?_
            rintro e w' ⟨rfl, W1, v, hg, hv, rfl⟩
            exact ⟨rfl, fin W1 v 1 (by omega) hg (by rw [hs0]; exact hv)⟩
          · cases hsl
            refine (push_some a 0 g 0 w2.heap.size s.stack.length _ (stackOf s) k _ c0' fz' (stackOf_len s).symm hcap (by omega) (fun j y hy => ?_) hpb).mono ?_
            · refine ⟨g, 0, rfl, ?_⟩
              have hy2 := intCells_get hy
              have hlj : j < (stackOf s).length := (List.getElem?_eq_some_iff.1 hy).1
              rw [Nat.zero_add]
              exact (h9.cellAt j (by rw [← stackOf_len]; omega)).trans hy2
            · rintro e w' ⟨rfl, W1, v, hg, hv, rfl⟩
              exact ⟨rfl, fin W1 v _ rfl hg hv⟩)
        go_wp2_with fail
        refine HP.out.mono ?_
        rintro e w3 ⟨rfl, v, hM3, hB3, A', c', rfl⟩
        have HM3 := Lib.hid hM3
        have HB3 := Lib.hid hB3
        clear HP hM3 hB3 cm cx0 cx1 cx2 HM2 HB2 c0 fz hnx
        have cm := HM3.out.bm.cell
        have c0 := HM3.out.c0
        have c3 := HM3.out.c3
        have z3 := HM3.out.fz 3
        have hmx : max (s.most : Int) ((s.stack.length : Int) + 1) = ((max s.most (s.stack.length + 1) : Nat) : Int) := by omega
        have hmx2 : max (s.most : Int) ((s.stack.length + 1 : Nat) : Int) = ((max s.most (s.stack.length + 1) : Nat) : Int) := by omega
        go_wp2_with fail
        go_region
        have hM5 := (HM3.out.setMost ((max s.most (s.stack.length + 1) : Nat) : Int)).drew
        have hB5 := (HB3.out.kept (KeepsOthers.setCell w3 ⟨a, 3, none⟩ (.int .i64 ((max s.most (s.stack.length + 1) : Nat) : Int)))).kept (KeepsOthers.drew _)
        obtain ⟨fn, tmps, assign, body, hy, hR⟩ := HY.out _ _ _ _ _ _ _ _ _ (k : Int) (s.stack.length : Int) hM5 hB5 (by rw [deepsOf_len]; omega)
        have HRo := Lib.hid hR
        clear hR hM5 hB5 HM3 HB3
        go_upto_region 17 with fail
        refine (wpIn_wide (n := n + 1)).1 ?_
        gi_wp2_with fail
        refine HRo.out.mono ?_
        rintro e w4 ⟨rfl, hB4, dv', hM4⟩
        gi_wp2_with fail
        go_wp2_with fail
        go_roundw
        case rel => exact ⟨k + 1, _, _, _, _, by go_num, StepAt.next (by omega) hst.out hM4 (by simp [stackOf, h1]) (pairsOf_succ hlt rfl) deepsOf_snoc.symm rfl hB4⟩
        case measure => simp [intOf]; omega
      · have Hgl := Lib.hid hgl2
        clear hgl2
        rw [hok]
        rw [hbk] at HK1
        go_wp2_with fail
        refine (HK1.out _).mono ?_
        rintro r' w3 ⟨rfl, hb⟩
        have hnx3 : w3.heap[wr.heap.size]? = some (.cells #[.int .i64 x.kind, .string x.text, .string x.glyph] 37 (0, 0)) := (hb.block _ (Array.getElem?_eq_some_iff.1 hnx.out).1).trans hnx.out
        have HM3 := Lib.hid (HM2.out.below hb)
        have HB3 := Lib.hid (HB2.out.kept (others_of_below hb))
        clear hb HK1 HM2 HB2 cm cx0 cx1 cx2 hnx
        have cm := HM3.out.bm.cell
        have c0 := HM3.out.c0
        rw [stackOf_len] at c0
        have c4 := HM3.out.c4
        have z0 := HM3.out.fz 0
        have z4 := HM3.out.fz 4
        have cx2 : w3.cell? ⟨wr.heap.size, 2, none⟩ = some (.string x.glyph) := by simp [World.cell?, hnx3]
        have cg : w3.cell? ⟨3, 0, none⟩ = some (.iface 216 (.pointer (some bq))) := (HM3.out.low.cell (p := ⟨3, 0, none⟩) (cell_lt hg)).trans hg
        cases hs : s.stack with
        | nil =>
          have hst : Hid (Brs.none0.run (brs l) = none) := Lib.hid (run_fail (k := k + 1) (by rw [HR.out, hb0]; simp [Brs.step, hs]))
          have hs0 : s.stack.length = 0 := by rw [hs]; rfl
          rw [hs0] at c0
          have HPop := Lib.hid (pop_no a 0 c5 S0 w3 c0)
          have e0 : x.glyph ≠ ByteArray.empty := by rw [Hgl.out]; exact closerOf_ne kb
          have e1 := empty_not e0
          have e2 : (([] : List UInt8) == x.glyph.toList) = false := by
            cases h : x.glyph.toList with
            | nil => rw [h] at e1; cases e1
            | cons y l => rfl
          have e3 := bytes_beq_no (Ne.symm e0)
          clear hs e0
          go_wp2_with fail
          refine HPop.out.mono ?_
          rintro r' w4 ⟨rfl, h⟩
          subst h
          go_wp2_with fail
          try rw [Exit.noGoto_normal]
          go_end0
          exact ⟨⟨_, rfl⟩, HB3.out.kept (KeepsOthers.setCell _ _ _), Or.inr ⟨hst.out, _, _, _, _, _, _, _, _, HM3.out.setErr _⟩⟩
        | cons qc rr =>
          obtain ⟨q, cb⟩ := qc
          obtain ⟨hq, hql, y, hy, hyb⟩ := HS.out q cb rr hs
          have hyk := br_open hyb
          have hyg := (hl2 q y hy).2
          have hlen : s.stack.length = rr.length + 1 := by rw [hs]; rfl
          have hso := stackOf_cons hs
          have HQ := Lib.hid hs
          have hM3' := HM3.out
          have hst4 := hM3'.stk
          rw [stackOf_len, hlen, hso, intCells_append] at hst4
          obtain ⟨g, cap, hg9, hgb, hgl9, hgc⟩ := own_form hst4 (by omega)
          cases hg9
          have ctop : w3.cell? ⟨g, 0 + rr.length, none⟩ = some (.int .i64 (q : Int)) := by
            rw [Nat.zero_add, hst4.cellAt rr.length (by omega), List.getElem?_append_right (by simp [intCells])]
            simp [intCells]
          rw [hlen] at c0
          have HPop := Lib.hid (pop_yes a 0 g 0 rr.length c5 q w3 c0 z0 hgc (by omega) ctop)
          have hpop := ownsRow_pop (by simp [intCells]) hst4
          have hlr : (rr.map (fun x => (x.1 : Int))).reverse.length = rr.length := by simp
          have HM4 := Lib.hid (hM3'.setStack (.slice (some ⟨g, 0, none⟩) rr.length c5) (rr.map (fun x => (x.1 : Int))).reverse (by rw [hlr]; exact hpop) (fun b hb he => hM3'.f1 b hb he) (fun b hb he => hM3'.f3 b hb he))
          have HB4 := Lib.hid (HB3.out.kept (KeepsOthers.setCell w3 ⟨a, 0, none⟩ (.slice (some ⟨g, 0, none⟩) rr.length c5)))
          have hna : wr.heap.size ≠ a := fun e => by
            have h8 := hM3'.ma
            rw [← e, hnx3] at h8
            cases h8
          have hnx4 : (w3.setCell ⟨a, 0, none⟩ (.slice (some ⟨g, 0, none⟩) rr.length c5)).heap[wr.heap.size]? = some (.cells #[.int .i64 x.kind, .string x.text, .string x.glyph] 37 (0, 0)) := ((grown_setCell w3 ⟨a, 0, none⟩ (.slice (some ⟨g, 0, none⟩) rr.length c5)).block _ (Array.getElem?_eq_some_iff.1 hnx3).1 (by simpa using hna)).trans hnx3
          have HO2 := Lib.hid (fun u => HO.out y u (by unfold maxLen; omega))
          unfold opensOut at HO2
          change Hid (∀ u, Calls _ _ _ u fun r w' => r = .returned (.tuple #[_, .bool y.ok]) ∧ _) at HO2
          rw [hyk.2.2.2.2, hyk.2.2.2.1] at HO2
          unfold Tok.val at HO2
          simp only [Option.getD_some] at HO2
          obtain ⟨w4, hw4⟩ : ∃ w4, w3.setCell ⟨a, 0, none⟩ (.slice (some ⟨g, 0, none⟩) rr.length c5) = w4 := ⟨_, rfl⟩
          rw [hw4] at HM4 HB4 hnx4 HPop
          clear hw4 hM3' hst4 hpop c0 c4 z0 z4 cx2 cg hnx3 hlr hna ctop hgc hso HM3 HB3 hyk hs hlen
          go_wp2_with fail
          refine HPop.out.mono ?_
          rintro r' w4' ⟨rfl, h⟩
          subst h
          clear cm
          have cm := HM4.out.bm.cell
          have c1 := HM4.out.c1
          obtain ⟨b9, off9, e9, y1, y2, y3⟩ := (hh.below HM4.out.low) q y hy
          cases e9
          clear hy hyb HPop
          go_wp2_with fail
          refine (HO2.out _).mono ?_
          rintro r' w5 ⟨rfl, hb⟩
          have hnx5 : w5.heap[wr.heap.size]? = some (.cells #[.int .i64 x.kind, .string x.text, .string x.glyph] 37 (0, 0)) := (hb.block _ (Array.getElem?_eq_some_iff.1 hnx4).1).trans hnx4
          have HM5 := Lib.hid (HM4.out.below hb)
          have HB5 := Lib.hid (HB4.out.kept (others_of_below hb))
          clear hb HO2 HM4 HB4 cm c1 y1 y2 y3 hnx4
          have cm := HM5.out.bm.cell
          have cx2 : w5.cell? ⟨wr.heap.size, 2, none⟩ = some (.string x.glyph) := by simp [World.cell?, hnx5]
          have cg : w5.cell? ⟨3, 0, none⟩ = some (.iface 216 (.pointer (some bq))) := (HM5.out.low.cell (p := ⟨3, 0, none⟩) (cell_lt hg)).trans hg
          have c4 := HM5.out.c4
          have z4 := HM5.out.fz 4
          by_cases hcb : cb = kb
          · have hst : Hid (Brs.none0.run (brs (l.take (k + 1))) = some ⟨rr, s.pairs.set q s.pairs.length ++ [(q : Int)], s.deeps ++ [rr.length], s.most⟩) := Lib.hid (by rw [HR.out, hb0]; simp [Brs.step, HQ.out, hcb])
            have eq1 := bytes_beq_yes (show closerOf cb = x.glyph by rw [hcb, Hgl.out])
            clear hcb
            generalize closerOf cb = cz at *
            have hpl := pairsOf_len hlt h1
            have hprs := HM5.out.prs
            rw [hpl] at hprs
            obtain ⟨g9, cap9, rfl, o1, o2, o3⟩ := own_form hprs (by omega)
            have hq9 : ∃ v, (intCells (pairsOf l k s))[q]? = some v := ⟨_, List.getElem?_eq_getElem (by rw [intCells_length, hpl]; omega)⟩
            obtain ⟨v9, hv9⟩ := hq9
            have cq : w5.cell? ⟨g9, q, none⟩ = some v9 := (hprs.cellAt q (by omega)).trans hv9
            have zq : w5.frozen? ⟨g9, q, none⟩ = false := hprs.frozenAt q
            have zk : w5.frozen? ⟨g9, k, none⟩ = false := hprs.frozenAt k
            have HM6 := Lib.hid (HM5.out.setPair hpl.symm q (k : Int))
            have hk9 : ∃ v, (intCells ((pairsOf l k s).set q (k : Int)))[k]? = some v := ⟨_, List.getElem?_eq_getElem (by rw [intCells_length, List.length_set, hpl]; omega)⟩
            obtain ⟨v10, hv10⟩ := hk9
            have hprs6 := HM6.out.prs
            rw [List.length_set, hpl] at hprs6
            have ck : (w5.setCell ⟨g9, q, none⟩ (.int .i64 (k : Int))).cell? ⟨g9, k, none⟩ = some v10 := (hprs6.cellAt k (by omega)).trans hv10
            have HM7 := Lib.hid (HM6.out.setPair (by rw [List.length_set]; exact hpl.symm) k (q : Int))
            have HB7 := Lib.hid ((HB5.out.kept (KeepsOthers.setCell w5 ⟨g9, q, none⟩ (.int .i64 (k : Int)))).kept (KeepsOthers.setCell _ ⟨g9, k, none⟩ (.int .i64 (q : Int))))
            have c2 := HM5.out.c2
            have c2' := HM6.out.c2
            have cm' := HM6.out.bm.cell
            have c2'' := HM7.out.c2
            have cm'' := HM7.out.bm.cell
            have c0'' := HM7.out.c0
            have m3 : (q : Int) < (l.length : Int) := by omega
            clear hprs hprs6 hv9 hv10 hpl HM5 HB5 c4 z4
            go_wp2_with fail
            refine wp_region_ord (S := fun w' => w'.cell? ⟨Bm, 0, none⟩ = some (.pointer (some ⟨a, 0, none⟩)) ∧ w'.cell? ⟨a, 2, none⟩ = some (.slice (some ⟨g9, 0, none⟩) l.length cap9)) [0, 1, 2, 3, 4, 5, 6, 7, 8, 9, 10, 11, 12] [13, 14, 15] (by kernel_rfl) (by kernel_rfl) (fun _ _ _ _ _ h => h) ⟨cm, c2⟩ ?_
            simp only [pick, List.filterMap_cons, List.filterMap_nil, List.getElem?_toArray, List.getElem?_cons_zero, List.getElem?_cons_succ]
            repeat (refine wpHead_step (v := ?_) rfl ?_ ?_; rotate_left; (focus (rintro w1 ⟨cm, c2⟩; go_simp; try with_reducible rfl)); simp only [Act.put, List.setIfInBounds_toArray, List.set_cons_zero, List.set_cons_succ])
            refine wpHead_nil ?_
            refine wpTail_step rfl (fun K hK => ?_)
            go_wp2_with fail
            refine hK _ _ ⟨cm', c2'⟩ ?_
            clear hK K
            try simp only [Act.put, List.setIfInBounds_toArray, List.set_cons_zero, List.set_cons_succ]
            refine wpTail_step rfl (fun K hK => ?_)
            go_wp2_with fail
            refine hK _ _ ⟨cm', c2'⟩ ?_
            clear hK K
            try simp only [Act.put, List.setIfInBounds_toArray, List.set_cons_zero, List.set_cons_succ]
            refine wpTail_step rfl (fun K hK => ?_)
            go_wp2_with fail
            refine hK _ _ ⟨cm'', c2''⟩ ?_
            clear hK K
            try simp only [Act.put, List.setIfInBounds_toArray, List.set_cons_zero, List.set_cons_succ]
            refine wpTail_nil ?_
            have hM8 := HM7.out.drew
            have hB8 := HB7.out.kept (KeepsOthers.drew _)
            obtain ⟨fn, tmps, assign, body, hy, hR⟩ := HY.out _ _ _ _ _ _ _ _ _ (k : Int) (rr.length : Int) hM8 hB8 (by rw [deepsOf_len]; omega)
            have HRo := Lib.hid hR
            clear hR hM8 hB8 HM6 HM7 HB7 ck cq zq zk c2 c2' c2'' cm cm' cx2 cg
            go_upto_region 17 with fail
            refine (wpIn_wide (n := n + 1)).1 ?_
            gi_wp2_with fail
            refine HRo.out.mono ?_
            rintro e w6 ⟨rfl, hB9, dv', hM9⟩
            gi_wp2_with fail
            go_wp2_with fail
            go_roundw
            case rel => exact ⟨k + 1, _, _, _, _, by go_num, StepAt.next (by omega) hst.out hM9 rfl (pairsOf_close hlt h1 hq) deepsOf_snoc.symm rfl hB9⟩
            case measure => simp [intOf]; omega
          · have hst : Hid (Brs.none0.run (brs l) = none) := Lib.hid (run_fail (k := k + 1) (by rw [HR.out, hb0]; simp [Brs.step, HQ.out, hcb]))
            have eq1 := bytes_beq_no (show closerOf cb ≠ x.glyph by rw [Hgl.out]; exact fun e => hcb (closerOf_inj.1 e))
            clear hcb
            generalize closerOf cb = cz at *
            go_wp2_with fail
            try rw [Exit.noGoto_normal]
            go_end0
            exact ⟨⟨_, rfl⟩, HB5.out.kept (KeepsOthers.setCell _ _ _), Or.inr ⟨hst.out, _, _, _, _, _, _, _, _, HM5.out.setErr _⟩⟩
    · obtain rfl : k = l.length := by omega
      rw [List.take_of_length_le (Nat.le_refl _)] at hrun
      have Hrun := Lib.hid hrun
      clear hrun
      go_wp2_with fail
      try rw [Exit.noGoto_normal]
      go_end0
      refine ⟨⟨_, rfl⟩, hbooks, Or.inl ⟨s, sv, pv, dv, Hrun.out, ?_⟩⟩
      have e : pairsOf l l.length s = s.pairs := by simp [pairsOf]
      rw [← e]
      exact hmat
end Go.Proofs.YtebejlnegalokaaGreatDoor.Gz
/-
  XGrpJc, turned: what this seat needs of it.
-/
namespace Go.Proofs.YtebejlnegalokaaGreatDoor.Gz
open Go Go.RowKit
attribute [local go_sem] Oper.semAt_some
theorem steps_any (a : Addr) (w : World) :
    Calls Tryz.prog 112 #[.pointer (some a)] w fun e w' => e = .returned (.func (.func 124) #[] #[.pointer (some ⟨w.heap.size, 0, none⟩)]) ∧ w' = w.alloc (.cells #[.pointer (some a)] 122) := by
  go_enter Tryz.func112, Tryz.ntmps112
  go_wp2
  go_ret
  exact ⟨rfl, rfl⟩
theorem others_of_row {W W' : World} {base : Nat} {e : TypeId} {size : Nat} {v : Value} {n : Nat} {xs : List Value} (h : W.ownsRow base e size v n xs) (hg : W.grownBy W' v.ownBlock) : KeepsOthers W W' :=
  KeepsOthers.of_grownBy hg (fun j o ej hj => by
    rcases h.2 with ⟨rfl, _⟩ | ⟨g, cap, cur, rfl, _, hgb, _⟩
    · simp [Value.ownBlock] at ej
    · obtain rfl : g = j := by simpa [Value.ownBlock] using ej
      rw [hgb] at hj; cases hj; rfl)
theorem others_drewN (W : World) (n : Nat) : KeepsOthers W (W.drewN n) := ⟨Nat.le_refl _, fun _ _ h _ => h⟩
/-- What 'match' tells. -/
def Matched (l : List Tok) (w : World) (e : Ending) (w' : World) : Prop :=
  ∃ (a : Nat) (dv pv ev : Value), e = .returned (.tuple #[.pointer (some ⟨a, 0, none⟩), dv]) ∧ Below w.heap.size w w' ∧ w'.cell? ⟨a, 2, none⟩ = some pv ∧ w'.cell? ⟨a, 4, none⟩ = some ev ∧
    ((codeOf l = 0 ∧ ev = .nilIface ∧ (∃ P c, pv = .slice P l.length c ∧ HoldsI w' P (brsOf l).pairs) ∧ ∃ D c, dv = .slice D l.length c ∧ HoldsI w' D (deepsOf (brsOf l))) ∨
     (codeOf l ≠ 0 ∧ ∃ p v, ev = .iface 177 (.agg #[.int .i64 (codeOf l), .int .i64 p, v]) ∧ v.oneCell' = true))
theorem matched_ok {l : List Tok} {w W : World} {A : Option Addr} {c a Bm Bd : Nat} {sv pv dv : Value} {stk prs ds : List Int} {mo : Int} {s : Brs} (hc : codeOf l = 0) (hb : brsOf l = s) (hp : prs = s.pairs) (hd : ds = deepsOf s)
    (hm : MatC l w A c a Bm Bd sv pv dv stk prs ds mo .nilIface W) : Matched l w (.returned (.tuple #[.pointer (some ⟨a, 0, none⟩), dv])) W := by
  subst hb hp hd
  obtain ⟨n1, n2⟩ := brsOf_len hc
  have h1 := hm.prs
  have h2 := hm.dps
  rw [deepsOf_len, n2] at h2
  rw [n1] at h1
  obtain ⟨P, cp, rfl, e1, hP, _⟩ := holdsI_of_own h1
  obtain ⟨D, cd, rfl, e2, hD, _⟩ := holdsI_of_own h2
  rw [n1] at hm
  rw [deepsOf_len, n2] at hm ⊢
  exact ⟨a, _, _, _, rfl, hm.low, hm.c2, hm.c4, Or.inl ⟨hc, rfl, ⟨P, cp, rfl, hP⟩, D, cd, rfl, hD⟩⟩
theorem matched_err {l : List Tok} {w W : World} {A : Option Addr} {c a Bm Bd : Nat} {sv pv dv : Value} {stk prs ds : List Int} {mo p k : Int} {v : Value} (hc : codeOf l = k) (hk : k ≠ 0) (hv : v.oneCell' = true)
    (hm : MatC l w A c a Bm Bd sv pv dv stk prs ds mo (.iface 177 (.agg #[.int .i64 k, .int .i64 p, v])) W) : Matched l w (.returned (.tuple #[.pointer (some ⟨a, 0, none⟩), dv])) W := by
  subst hc
  exact ⟨a, _, _, _, rfl, hm.low, hm.c2, hm.c4, Or.inr ⟨hk, p, v, rfl, hv⟩⟩
set_option maxRecDepth 100000 in
set_option maxHeartbeats 8000000 in
theorem match_any (A : Option Addr) (c : Nat) (l : List Tok) (bq : Addr) (w : World) (hl : mildT l) (hh : HoldsT w A l)
    (hg : w.cell? ⟨3, 0, none⟩ = some (.iface 216 (.pointer (some bq)))) :
    Calls Tryz.prog 86 #[.slice A l.length c] w (Matched l w) := by
  obtain ⟨i0, hi0, hz0, hz1, hz2⟩ := info_parts infoInt
  have hl1 := hl.1
  refine calls_of_wp_marks 3 Tryz.func86 rfl ?_
  simp only [Tryz.ntmps86, List.size_toArray, List.length_cons, List.length_nil, Nat.reduceAdd, Nat.reduceSub, Array.replicate_succ, Array.replicate_zero, List.push_toArray, List.append_toArray, List.nil_append, List.cons_append]
  go_wp2_with fail
  go_loopw [13] (fun i wr => ∃ (k : Nat) (pv : Value), i = .int .i64 k ∧ k ≤ l.length ∧ wr.heap[w.heap.size]? = some (.cells #[.slice none 0 0, .slice A l.length c, pv, .int .i64 0, .nilIface] 128 (0, 0)) ∧ wr.ownsRow w.heap.size 3 1 pv k (intCells (List.replicate k (-1))) ∧ Below w.heap.size w wr)
    (fun i _ => l.length - (intOf i).toNat)
  case atStart => exact ⟨0, _, rfl, by omega, World.alloc_heap_new w _, World.ownsRow_nil _ _ _ _, (Below.refl _ _).alloc (Nat.le_refl _) _⟩
  case round =>
    obtain ⟨k, pv, rfl, hk, hma, hown, hlow⟩ := hrel
    by_cases hlt : k < l.length
    · have c2 : wr.cell? ⟨w.heap.size, 2, none⟩ = some pv := by simp [World.cell?, hma]
      have z2 : wr.frozen? ⟨w.heap.size, 2, none⟩ = false := frozen_of_row wr _ 2 _ _ hma
      have hsz := hlow.size
      have la := (Array.getElem?_eq_some_iff.1 hma).1
      have geo := ownBlock_ge hown
      have hne := row_ne hown hma (by decide)
      go_wp2_with (at_builtin; go_must (refine wpList_append_own _ rfl _ _ 47 rfl w.heap.size 3 i0 _ 1 8 Tryz.underlying47 hi0 hz0 hz1 hz2 rfl (by decide) pv k _ rfl (hown.alloc _) ⟨wr.heap.size, 0, none⟩ 1 1 [.int .i64 (-1)] rfl rfl (cell_one_new _ _ _) (by simp [Value.oneCell']) (by unfold maxLen; omega) (by omega) (by simp; omega) ?_); go_must (intro v1 w3 hown3 hg3 _); go_must (obtain ⟨A9, c9, rfl⟩ := owns_slice hown3); go_must (have hma3 := (hg3.block w.heap.size (by simp; omega) (Ne.symm hne)).trans (((World.grownBy_alloc wr (.cells #[.int .i64 (-1)] 3) none).block _ la (by simp)).trans hma)); go_must (have c2' : w3.cell? ⟨w.heap.size, 2, none⟩ = some pv := by simp [World.cell?, hma3]); go_must (have z2' : w3.frozen? ⟨w.heap.size, 2, none⟩ = false := frozen_of_row w3 _ 2 _ _ hma3))
      go_roundw
      case rel =>
        refine ⟨k + 1, _, by go_num, by omega, heap_setCell_same w3 _ 2 _ _ _ hma3, ?_, ((hlow.alloc hsz _).grown hg3 (by simp; omega) geo).setCell (p := ⟨w.heap.size, 2, none⟩) (Nat.le_refl _) _⟩
        have e : intCells (List.replicate (k + 1) (-1)) = intCells (List.replicate k (-1)) ++ [.int .i64 (-1)] := by rw [List.replicate_succ']; simp [intCells]
        rw [e]
        exact hown3.kept (grown_setCell w3 ⟨w.heap.size, 2, none⟩ _) (Or.inr (row_ne hown3 hma3 (by decide)))
      case measure => simp [intOf]; omega
    · obtain rfl : k = l.length := by omega
      have la := (Array.getElem?_eq_some_iff.1 hma).1
      go_wp2_with fail
      refine (steps_any _ _).mono ?_
      rintro e w2 ⟨rfl, rfl⟩
      have hM : MatC l w A c w.heap.size (wr.heap.size + 1) wr.heap.size (.slice none 0 0) pv (.slice none 0 0) [] (List.replicate l.length (-1)) [] 0 .nilIface ((wr.alloc (.cells #[.slice none 0 0] 47)).alloc (.cells #[.pointer (some ⟨w.heap.size, 0, none⟩)] 122)) := by
        have b1 := Boxed.new wr 47 (.slice none 0 0)
        have b2 := Boxed.new (wr.alloc (.cells #[.slice none 0 0] 47)) 122 (.pointer (some ⟨w.heap.size, 0, none⟩))
        rw [World.size_alloc] at b2
        have hg1 := World.grownBy_alloc wr (.cells #[.slice none 0 0] 47) none
        have hg2 := World.grownBy_alloc (wr.alloc (.cells #[.slice none 0 0] 47)) (.cells #[.pointer (some ⟨w.heap.size, 0, none⟩)] 122) none
        refine ⟨(hlow.alloc hlow.size _).alloc (by simp; have := hlow.size; omega) _, b2, b1.alloc _, (hg2.block _ (by simp; omega) (by simp)).trans ((hg1.block _ la (by simp)).trans hma), World.ownsRow_nil _ _ _ _, ?_, World.ownsRow_nil _ _ _ _, ?_, ?_, ?_, Nat.le_refl _, hlow.size⟩
        · rw [List.length_replicate]
          exact (hown.alloc _).alloc _
        · intro b hb he; simp [Value.ownBlock] at he
        · intro b hb he; simp [Value.ownBlock] at he
        · intro b hb he; simp [Value.ownBlock] at he
      have lw := hlow.size
      clear hma hown
      go_wp2_with fail
      have lB : (wr.alloc (.cells #[.slice none 0 0] 47)).heap.size = wr.heap.size + 1 := by simp
      obtain ⟨W0, hW0⟩ : ∃ W0, (wr.alloc (.cells #[.slice none 0 0] 47)).alloc (.cells #[.pointer (some ⟨w.heap.size, 0, none⟩)] 122) = W0 := ⟨_, rfl⟩
      rw [hW0] at hM
      try rw [hW0]
      clear hW0
      have HM := Lib.hid hM
      clear hM
      refine wpIn_wide.1 (range_joint (n := 3) (F := Fence.wide) rfl (by omega) (gf := 124) (lb := #[.pointer (some ⟨wr.heap.size + 1, 0, none⟩)]) rfl trivial (enters_of Tryz.func124 (by kernel_rfl) rfl) ?_)
      intro fn r W hfn hr hW hB
      have hMW : MatC l w A c w.heap.size (wr.heap.size + 1) wr.heap.size (.slice none 0 0) pv (.slice none 0 0) [] (List.replicate l.length (-1)) [] 0 .nilIface W := by
        rw [hW]
        exact (HM.out.alloc _).alloc _
      have hLw := HM.out.low.size
      refine callsIn_wide.2 ((steps1_any 2 (by omega) l w W A c w.heap.size (wr.heap.size + 1) wr.heap.size (W0.heap.size + 1) W0.heap.size r pv bq hl hh hg hMW hB ?hY).mono ?_)
      case hY =>
        intro sv pv dv stk prs ds mo ev W5 i d hm5 hb5 hlen
        have h1 : r.state = .ready := by rw [hr]
        have h2 : r.pending = none := by rw [hr]
        have h3 : r.params.size = 2 := by rw [hr]; rfl
        refine (round_joint (F := Fence.wide) (n := 2) (args := #[.int .i64 i, .int .i64 d]) (Post := fun W3 => ∃ dv', MatC l w A c w.heap.size (wr.heap.size + 1) wr.heap.size sv pv dv' stk prs (ds ++ [d]) mo ev W3) trivial hb5 h1 h2 (by rw [h3]; rfl) ?_).mono ?_
        · obtain ⟨rb, hrb⟩ : ∃ rb, ({ r with state := .busy } : Loop) = rb := ⟨_, rfl⟩
          rw [hrb]
          have hm6 := hm5.putObj (.loop rb) hb5.lp rfl (by omega)
          obtain ⟨W6, hW6⟩ : ∃ W6, W5.putObj (W0.heap.size + 1) (.loop rb) = W6 := ⟨_, rfl⟩
          rw [hW6] at hm6
          have hs5 := hm5.low.size
          have HW6 := Lib.hid hW6
          clear hrb hW6 hb5 h1 h2 h3 hB hW hMW
          subst hr
          gi_wp2_with fail
          refine ⟨KeepsOthers.refl _, ?_⟩
          rw [HW6.out]
          clear HW6
          have cd6 := hm6.bd.cell
          have zd6 := hm6.bd.frozen
          have hs6 := hm6.low.size
          have HM6 := Lib.hid hm6
          have hdps := Lib.hid hm6.dps
          have lps := ownBlock_lt hm6.prs
          have lst := ownBlock_lt hm6.stk
          have ned := row_ne hm6.dps hm6.bd (by decide)
          clear hm5 hm6
          gi_wp2_with (gi_at_builtin; go_must (refine wpListIn_append_own_at _ rfl _ _ 47 rfl w.heap.size 3 i0 _ 1 8 Tryz.underlying47 hi0 hz0 hz1 hz2 rfl (by decide) dv ds.length _ rfl (hdps.out.alloc _) ⟨W6.heap.size, 0, none⟩ 1 1 [.int .i64 d] rfl rfl (cell_one_new _ _ _) (by simp [Value.oneCell']) (by unfold maxLen; omega) (by omega) (by simp; omega) ?_); go_must (intro v1 w3 hown3 hg3 _ hat3); go_must (obtain ⟨A9, c9, rfl⟩ := owns_slice hown3); go_must (have hb3 := (((HM6.out.alloc (.cells #[.int .i64 d] 3)).bd).kept hg3 (Ne.symm ned))); go_must (have cd3 := hb3.cell); go_must (have zd3 := hb3.frozen))
          refine ⟨((KeepsOthers.alloc W6 _).trans (others_of_row (hdps.out.alloc _) hg3)).trans (KeepsOthers.setCell _ _ _), _, (HM6.out.alloc _).setDeep _ (ds ++ [d]) hg3 ?_ ?_ ?_⟩
          · rw [intCells_append, List.length_append]
            exact hown3
          · exact far_right HM6.out.f2 hat3 (fun b hb => by have := lps b hb; simp; omega)
          · exact far_right HM6.out.f3 hat3 (fun b hb => by have := lst b hb; simp; omega)
        · rintro e W' ⟨rfl, hB', W3, hB3, rfl, dv', hm'⟩
          exact ⟨rfl, hB', dv', hm'.putObj _ hB3.lp rfl (by omega)⟩
      · rintro e W' ⟨hv, hB', hS⟩
        refine ⟨hv, hB', ?_⟩
        obtain ⟨W7, hW7⟩ : ∃ W7, W'.putObj (W0.heap.size + 1) (.loop { r with state := .exhausted }) = W7 := ⟨_, rfl⟩
        have hD7 : W7.heap[W0.heap.size]? = some (.deferred (some [])) := by
          rw [← hW7]
          exact (World.putObj_heap_other (by omega)).trans hB'.calls
        have hS7 : Stepped l w A c w.heap.size (wr.heap.size + 1) wr.heap.size bq W7 := by
          rw [← hW7]
          rcases hS with ⟨s, sv, pv, dv, h1, h2⟩ | ⟨h1, sv, pv, dv, stk, prs, ds, mo, p, h2⟩
          · exact Or.inl ⟨s, sv, pv, dv, h1, h2.putObj _ hB'.lp rfl (by omega)⟩
          · exact Or.inr ⟨h1, sv, pv, dv, stk, prs, ds, mo, p, h2.putObj _ hB'.lp rfl (by omega)⟩
        rw [hW7]
        clear hW7 hB' hS hB hW hMW hr hv
        rcases hS7 with ⟨s, sv, pv, dv, hrun, hm⟩ | ⟨hrun, sv, pv, dv, stk, prs, ds, mo, p, hm⟩
        · obtain ⟨hc, hbr⟩ := code_end hrun
          have Hbr := Lib.hid hbr
          have Hrun := Lib.hid hrun
          clear hbr hrun
          have c0 := hm.c0
          have c3 := hm.c3
          have c4 := hm.c4
          have z4 := hm.fz 4
          have cd := hm.bd.cell
          have HM7 := Lib.hid hm
          obtain ⟨S0, c5, rfl⟩ := owns_slice hm.stk
          rw [stackOf_len] at c0
          clear hm
          by_cases hs : s.stack = []
          · rw [if_pos hs] at hc
            have hs0 : s.stack.length = 0 := by rw [hs]; rfl
            rw [hs0] at c0
            by_cases h20 : 20 < s.most
            · rw [if_pos h20] at hc
              have Hc := Lib.hid hc
              have q : (20 : Int) < (s.most : Int) := by omega
              clear hc hs h20
              have HM8 := Lib.hid (HM7.out.setErr (.iface 177 (.agg #[.int .i64 61, .int .i64 0, .nilIface])))
              have hD8 := (KeepsOthers.setCell W7 ⟨w.heap.size, 4, none⟩ (.iface 177 (.agg #[.int .i64 61, .int .i64 0, .nilIface]))).same _ _ hD7 rfl
              have cd8 := HM8.out.bd.cell
              go_wp2_with fail
              go_quiet (fail)
              go_wp2_with fail
              have hD9 := (others_drewN _ nq).same _ _ hD8 rfl
              refine ⟨by simp, .inl ⟨_, _, rfl, run_takeDeferred hD9, ?_⟩⟩
              refine ⟨_, results_tmp2 rfl _ _ _, ?_⟩
              exact matched_err Hc.out (by omega) rfl ((HM8.out.drewN nq).putObj _ hD9 rfl (by omega))
            · rw [if_neg h20] at hc
              have Hc := Lib.hid hc
              have q : ¬ (20 : Int) < (s.most : Int) := by omega
              clear hc hs h20
              go_wp2_with fail
              go_quiet (fail)
              go_wp2_with fail
              have hD9 := (others_drewN _ nq).same _ _ hD7 rfl
              refine ⟨by simp, .inl ⟨_, _, rfl, run_takeDeferred hD9, ?_⟩⟩
              refine ⟨_, results_tmp2 rfl _ _ _, ?_⟩
              exact matched_ok Hc.out Hbr.out rfl rfl ((HM7.out.drewN nq).putObj _ hD9 rfl (by omega))
          · rw [if_neg hs] at hc
            have Hc := Lib.hid hc
            have hs1 : 0 < s.stack.length := List.length_pos_iff.2 hs
            have q : (0 : Int) < (s.stack.length : Int) := by omega
            have hst := HM7.out.stk
            rw [stackOf_len] at hst
            obtain ⟨g, cap, hsl, g1, g2, g3⟩ := own_form hst hs1
            cases hsl
            have hcell : ∃ y, (stackOf s)[0]? = some y := ⟨_, List.getElem?_eq_getElem (by rw [stackOf_len]; exact hs1)⟩
            obtain ⟨y, hy⟩ := hcell
            have cy : W7.cell? ⟨g, 0, none⟩ = some (.int .i64 y) := (hst.cellAt 0 (by omega)).trans (intCells_get hy)
            have cg : W7.cell? ⟨3, 0, none⟩ = some (.iface 216 (.pointer (some bq))) := (HM7.out.low.cell (p := ⟨3, 0, none⟩) (cell_lt hg)).trans hg
            have HM8 := Lib.hid (HM7.out.setErr (wrongV y bq))
            have hD8 := (KeepsOthers.setCell W7 ⟨w.heap.size, 4, none⟩ (wrongV y bq)).same _ _ hD7 rfl
            unfold wrongV at HM8 hD8
            have cd8 := HM8.out.bd.cell
            clear hc hs hst hy
            go_wp2_with fail
            go_region
            go_wp2_with fail
            go_quiet (fail)
            go_wp2_with fail
            have hD9 := ((KeepsOthers.drew _).trans (others_drewN _ nq)).same _ _ hD8 rfl
            refine ⟨by simp, .inl ⟨_, _, rfl, run_takeDeferred hD9, ?_⟩⟩
            refine ⟨_, results_tmp2 rfl _ _ _, ?_⟩
            exact matched_err Hc.out (by omega) rfl (((HM8.out.drew).drewN nq).putObj _ hD9 rfl (by omega))
        · have Hc : Hid (codeOf l = 60) := Lib.hid (by unfold codeOf; rw [hrun])
          clear hrun
          have c4 := hm.c4
          have cd := hm.bd.cell
          unfold wrongV at hm c4
          have HM7 := Lib.hid hm
          clear hm
          go_wp2_with fail
          go_quiet (fail)
          go_wp2_with fail
          have hD9 := (others_drewN _ nq).same _ _ hD7 rfl
          refine ⟨by simp, .inl ⟨_, _, rfl, run_takeDeferred hD9, ?_⟩⟩
          refine ⟨_, results_tmp2 rfl _ _ _, ?_⟩
          exact matched_err Hc.out (by omega) rfl ((HM7.out.drewN nq).putObj _ hD9 rfl (by omega))
end Go.Proofs.YtebejlnegalokaaGreatDoor.Gz
