/-
  The matcher's steps: the iterator.
-/
import Derived.Test.YtlokkdbgihbnhabDoorProg
import Derived.Test.YtlokkdbgihbnhabDoorReg
import Derived.WalkKit
import Derived.WalkSpells
import Derived.WalkLawsBesides
import Derived.Lib.Hide
import Derived.Lib.MinMax
import Derived.Deep.QuietTactic
import Derived.BigQuiet
import Derived.OwnWalk
import Derived.Deep.AppendLies
import Derived.KernelRfl
import Derived.OwnWalkIn
import Derived.TacticsInMore
import Derived.LoopNIn
import Derived.LoopIn
import Derived.Deep.RegionLaw
import Derived.Deep.Cut
import Derived.ArgAppend
import Derived.Test.YtlokkdbgihbnhabDoorRegIn
import Derived.Test.YtlokkdbgihbnhabDoorRegG
import Derived.Test.YtlokkdbgihbnhabDoorGrpJa
import Derived.Test.YtlokkdbgihbnhabDoorGrpW
set_option linter.unusedSimpArgs false
set_option linter.unusedVariables false
namespace Go.Proofs.YtlokkdbgihbnhabDoor
open Go Go.RowKit

def deepsOf (s : Brs) : List Int := s.deeps.map (fun (d : Nat) => (d : Int))
def pairsOf (l : List Tok) (k : Nat) (s : Brs) : List Int := s.pairs ++ List.replicate (l.length - k) (-1)
def wrongV (p : Int) (bq : Addr) : Value := .iface 59 (.agg #[.int .i64 60, .int .i64 p, .iface 109 (.pointer (some bq))])

theorem deepsOf_len (s : Brs) : (deepsOf s).length = s.deeps.length := by simp [deepsOf]
theorem pairsOf_succ {l : List Tok} {k : Nat} {s t : Brs} (hk : k < l.length) (ht : t.pairs = s.pairs ++ [-1]) : pairsOf l k s = pairsOf l (k + 1) t := by
  unfold pairsOf
  have e : l.length - k = (l.length - (k + 1)) + 1 := by omega
  rw [ht, e, List.replicate_succ]
  simp

theorem deepsOf_snoc {a : List (Nat × Bool)} {p : List Int} {D : List Nat} {d m : Nat} : deepsOf ⟨a, p, D ++ [d], m⟩ = D.map (fun (d : Nat) => (d : Int)) ++ [(d : Int)] := by simp [deepsOf]

theorem pairsOf_len {l : List Tok} {k : Nat} {s : Brs} (hk : k < l.length) (h : s.pairs.length = k) : (pairsOf l k s).length = l.length := by
  unfold pairsOf
  simp
  omega
theorem pairsOf_close {l : List Tok} {k q m : Nat} {s : Brs} {st : List (Nat × Bool)} {D : List Nat} (hk : k < l.length) (h : s.pairs.length = k) (hq : q < k) : ((pairsOf l k s).set q (k : Int)).set k (q : Int) = pairsOf l (k + 1) ⟨st, s.pairs.set q s.pairs.length ++ [(q : Int)], D, m⟩ := by
  unfold pairsOf
  have e : l.length - k = (l.length - (k + 1)) + 1 := by omega
  simp only [e, List.replicate_succ]
  rw [List.set_append_left _ _ (by omega), List.set_append_right _ _ (by simp; omega), h]
  simp [h]

structure StepAt (l : List Tok) (w0 : World) (A : Option Addr) (c a Bm Bd : Nat) (L D : Nat) (r : Loop) (k : Nat) (s : Brs) (sv pv dv : Value) (wr : World) : Prop where
  le : k ≤ l.length
  run : Brs.none0.run (brs (l.take k)) = some s
  mat : MatC l w0 A c a Bm Bd sv pv dv (stackOf s) (pairsOf l k s) (deepsOf s) s.most .nilIface wr
  books : Books L D r wr

theorem StepAt.next {l : List Tok} {w0 : World} {A : Option Addr} {c a Bm Bd L D : Nat} {r : Loop} {k : Nat} {t : Brs} {sv pv dv : Value} {wr : World} {s2 p2 d2 : List Int} {m2 : Int} (hk : k ≤ l.length) (hr : Brs.none0.run (brs (l.take k)) = some t)
    (hm : MatC l w0 A c a Bm Bd sv pv dv s2 p2 d2 m2 .nilIface wr) (hs : s2 = stackOf t) (hp : p2 = pairsOf l k t) (hd : d2 = deepsOf t) (hm2 : m2 = t.most) (hb : Books L D r wr) : StepAt l w0 A c a Bm Bd L D r k t sv pv dv wr := by
  subst hs hp hd hm2
  exact ⟨hk, hr, hm, hb⟩

/-- What the steps leave. -/
def Stepped (l : List Tok) (w0 : World) (A : Option Addr) (c a Bm Bd : Nat) (bq : Addr) (W : World) : Prop :=
  (∃ s sv pv dv, Brs.none0.run (brs l) = some s ∧ MatC l w0 A c a Bm Bd sv pv dv (stackOf s) s.pairs (deepsOf s) s.most .nilIface W) ∨
  (Brs.none0.run (brs l) = none ∧ ∃ sv pv dv stk prs ds mo p, MatC l w0 A c a Bm Bd sv pv dv stk prs ds mo (wrongV p bq) W)

set_option maxRecDepth 100000 in
set_option maxHeartbeats 8000000 in
theorem steps1_any (n : Nat) (hn : 1 ≤ n) (l : List Tok) (w0 W : World) (A : Option Addr) (c a Bm Bd L D : Nat) (r : Loop) (pv : Value) (bq : Addr) (hl : mildT l) (hh : HoldsT w0 A l)
    (hg : w0.cell? ⟨0, 0, none⟩ = some (.iface 109 (.pointer (some bq))))
    (hM : MatC l w0 A c a Bm Bd (.slice none 0 0) pv (.slice none 0 0) [] (List.replicate l.length (-1)) [] 0 .nilIface W) (hB : Books L D r W)
    (hY : ∀ sv pv dv stk prs ds mo ev W i d, MatC l w0 A c a Bm Bd sv pv dv stk prs ds mo ev W → Books L D r W → ds.length < l.length →
      YieldAt Fence.wide n Tryd.prog L #[.int .i64 i, .int .i64 d] W fun e W' => e = .returned (.bool true) ∧ Books L D r W' ∧ ∃ dv', MatC l w0 A c a Bm Bd sv pv dv' stk prs (ds ++ [d]) mo ev W') :
    Calls Tryd.prog 33 #[.func (.yield L) #[] #[], .pointer (some ⟨Bm, 0, none⟩)] W fun e W' => (∃ v, e = .returned v) ∧ Books L D r W' ∧ Stepped l w0 A c a Bm Bd bq W' := by
  obtain ⟨hl1, hl2⟩ := hl
  have HY := Lib.hid hY
  have HO := Lib.hid (fun x u hx => opens_any x u hx)
  have HK := Lib.hid (fun x u hx => isBracket_any x u hx)
  clear hY
  have cm := hM.bm.cell
  have c1 := hM.c1
  go_enter Tryd.func33, Tryd.ntmps33
  go_wp2
  go_step3
  go_wp2
  go_step3
  go_wp2
  go_loopw [16] (fun i wr => ∃ (k : Nat) (s : Brs) (sv pv dv : Value), i = .int .i64 k ∧ StepAt l w0 A c a Bm Bd L D r k s sv pv dv wr)
    (fun i _ => l.length - (intOf i).toNat)
  case atStart => exact ⟨0, .none0, _, pv, _, rfl, by omega, rfl, hM, hB⟩
  case round =>
    obtain ⟨k, s, sv, pv, dv, rfl, hle, hrun, hmat, hbooks⟩ := hrel
    by_cases hlt : k < l.length
    · have hx : l[k]? = some l[k] := List.getElem?_eq_getElem hlt
      have hR := run_snoc hx
      rw [hrun] at hR
      have hlens := run_lens hrun hle
      have HT := Lib.hid (fun (u : World) (hb : Below w0.heap.size w0 u) => (hh.below hb) k l[k] hx)
      have HS := Lib.hid (fun q b r (h : s.stack = (q, b) :: r) => top_open hrun h)
      have hgl := (hl2 k _ hx).2
      generalize l[k] = x at *
      have HR := Lib.hid hR
      clear hR hrun hx cm c1
      have cm := hmat.bm.cell
      have c1 := hmat.c1
      have c0 := hmat.c0
      have la := hmat.la
      have lm := hmat.bm.lt
      obtain ⟨h1, h2, h3, h4, h5⟩ := hlens
      obtain ⟨b, off, rfl, d1, d2, d3⟩ := HT.out wr hmat.low
      have lb := cell_lt d1
      obtain ⟨S0, c5, rfl⟩ := owns_slice hmat.stk
      rw [stackOf_len] at c0
      have HM := Lib.hid hmat
      have HB := Lib.hid hbooks
      clear hmat hbooks
      have HO1 := Lib.hid (fun u => HO.out x u (by unfold maxLen; omega))
      unfold opensOut at HO1
      have HK1 := Lib.hid (fun u => HK.out x u (by unfold maxLen; omega))
      change Hid (∀ u, Calls _ _ _ u fun r w' => r = .returned (.tuple #[_, .bool x.ok]) ∧ _) at HO1
      unfold Tok.val at HO1 HK1
      generalize (closeOf x.glyph).getD ByteArray.empty = cl at HO1
      go_wp2_with fail
      refine (HO1.out _).mono ?_
      rintro r' w2 ⟨rfl, hb⟩
      have hnx : Hid (w2.heap[wr.heap.size]? = some (.cells #[.int .i64 x.kind, .string x.text, .string x.glyph] 30 (0, 0))) := Lib.hid ((hb.block _ (by simp)).trans (heap_alloc_new wr _))
      have HM2 := Lib.hid ((HM.out.alloc _).below hb)
      have HB2 := Lib.hid (((HB.out.kept (KeepsOthers.alloc _ _))).kept (others_of_below hb))
      clear hb HO1 HM HB cm c1 c0 d1 d2 d3 la lm lb
      have cm := HM2.out.bm.cell
      have cx0 : w2.cell? ⟨wr.heap.size, 0, none⟩ = some (.int .i64 x.kind) := by simp [World.cell?, hnx.out]
      have cx1 : w2.cell? ⟨wr.heap.size, 1, none⟩ = some (.string x.text) := by simp [World.cell?, hnx.out]
      have cx2 : w2.cell? ⟨wr.heap.size, 2, none⟩ = some (.string x.glyph) := by simp [World.cell?, hnx.out]
      rcases br_ways x with ⟨hb0, -, -, hbk, hok⟩ | ⟨kb, hb0, -, -, hbk, hok, -⟩ | ⟨kb, hb0, -, -, hbk, hok, hgl2⟩
      · have hst : Hid (Brs.none0.run (brs (l.take (k + 1))) = some ⟨s.stack, s.pairs ++ [-1], s.deeps ++ [s.stack.length], s.most⟩) := Lib.hid (by rw [HR.out, hb0]; rfl)
        rw [hok]
        rw [hbk] at HK1
        go_wp2_with fail
        refine (HK1.out _).mono ?_
        rintro r' w3 ⟨rfl, hb⟩
        have HM3 := Lib.hid (HM2.out.below hb)
        have HB3 := Lib.hid (HB2.out.kept (others_of_below hb))
        clear hb HK1 HM2 HB2 cm cx0 cx1 cx2 hnx
        obtain ⟨fn, tmps, assign, body, hy, hR⟩ := HY.out _ _ _ _ _ _ _ _ w3 (k : Int) (s.stack.length : Int) HM3.out HB3.out (by rw [deepsOf_len]; omega)
        have HRo := Lib.hid hR
        clear hR
        go_upto_region 17 with fail
        refine (wpIn_wide (n := n + 1)).1 ?_
        gi_wp2_with fail
        refine HRo.out.mono ?_
        rintro e w4 ⟨rfl, hB4, dv', hM4⟩
        gi_wp2_with fail
        go_wp2_with fail
        go_roundw
        case rel => exact ⟨k + 1, _, _, _, _, by go_num, StepAt.next (by omega) hst.out hM4 rfl (pairsOf_succ hlt rfl) deepsOf_snoc.symm rfl hB4⟩
        case measure => simp [intOf]; omega
      · have hst : Hid (Brs.none0.run (brs (l.take (k + 1))) = some ⟨(s.pairs.length, kb) :: s.stack, s.pairs ++ [-1], s.deeps ++ [s.stack.length], max s.most (s.stack.length + 1)⟩) := Lib.hid (by rw [HR.out, hb0]; rfl)
        rw [hok]
        have lw2 := HM2.out.low.size
        have ltp := ownBlock_lt HM2.out.prs
        have ltd := ownBlock_lt HM2.out.dps
        have c0 := HM2.out.c0
        rw [stackOf_len] at c0
        have fz := HM2.out.fz 0
        have lm := HM2.out.bm.lt
        have la := HM2.out.la
        have HP : Hid (Calls Tryd.prog 34 #[.pointer (some ⟨a, 0, none⟩), .slice (some ⟨w2.heap.size, 0, none⟩) 1 1] (w2.alloc (.cells #[.int .i64 (k : Int)] 3)) fun e w' => e = .returned (.tuple #[]) ∧
            ∃ v, MatC l w0 (some ⟨b, off, none⟩) c a Bm Bd v pv dv (stackOf s ++ [(k : Int)]) (pairsOf l k s) (deepsOf s) s.most .nilIface w' ∧ Books L D r w' ∧ ∃ A' c', v = .slice A' (s.stack.length + 1) c') := Lib.hid (by
          have hs2 := (HM2.out.alloc (.cells #[.int .i64 (k : Int)] 3))
          have hk2 := HB2.out.kept (KeepsOthers.alloc w2 (.cells #[.int .i64 (k : Int)] 3))
          have hpb : (w2.alloc (.cells #[.int .i64 (k : Int)] 3)).cell? ⟨w2.heap.size, 0, none⟩ = some (.int .i64 k) := by simp
          have fin : ∀ (W1 : World) (v : Value) (m : Nat), m = s.stack.length + 1 → (w2.alloc (.cells #[.int .i64 (k : Int)] 3)).grownBy W1 none → W1.ownsRow (w2.alloc (.cells #[.int .i64 (k : Int)] 3)).heap.size 3 1 v m (intCells (stackOf s ++ [(k : Int)])) →
              ∃ v', MatC l w0 (some ⟨b, off, none⟩) c a Bm Bd v' pv dv (stackOf s ++ [(k : Int)]) (pairsOf l k s) (deepsOf s) s.most .nilIface (W1.setCell ⟨a, 0, none⟩ v) ∧ Books L D r (W1.setCell ⟨a, 0, none⟩ v) ∧ ∃ A' c', v' = .slice A' (s.stack.length + 1) c' := by
            intro W1 v m hm hg hv
            subst hm
            have hbw : Below (w2.alloc (.cells #[.int .i64 (k : Int)] 3)).heap.size (w2.alloc (.cells #[.int .i64 (k : Int)] 3)) W1 := ⟨hg.os, hg.tape, hg.output, hg.size, fun j hj => hg.block j hj (by simp)⟩
            have hv2 : W1.ownsRow w0.heap.size 3 1 v (stackOf s ++ [(k : Int)]).length (intCells (stackOf s ++ [(k : Int)])) := by
              have e : (stackOf s ++ [(k : Int)]).length = s.stack.length + 1 := by simp [stackOf_len]
              rw [e]
              exact own_mono hv (by simp; omega)
            have gv2 := ownBlock_ge hv
            obtain ⟨A', c', hvv⟩ := owns_slice hv
            refine ⟨v, (hs2.below hbw).setStack v _ hv2 (fun j hj he => ?_) (fun j hj he => ?_), (hk2.kept (others_of_below hbw)).kept (KeepsOthers.setCell _ _ _), A', c', hvv⟩
            · have := ltp j hj
              have := gv2 j he
              simp at this
              omega
            · have := ltd j he
              have := gv2 j hj
              simp at this
              omega
          have c0' : (w2.alloc (.cells #[.int .i64 (k : Int)] 3)).cell? ⟨a, 0, none⟩ = some (.slice S0 s.stack.length c5) := (World.cell?_alloc_lt _ _ _ la).trans c0
          have fz' : (w2.alloc (.cells #[.int .i64 (k : Int)] 3)).frozen? ⟨a, 0, none⟩ = false := hs2.fz 0
          have h9 := hs2.stk
          rw [stackOf_len] at h9
          rcases h9.2 with ⟨hnil, hz⟩ | ⟨g, cap, cur, hsl, _, _, hcap, _⟩
          · have hs0 : stackOf s = [] := List.eq_nil_of_length_eq_zero (by rw [stackOf_len]; exact hz)
            rw [hnil] at c0'
            refine (push_nil a 0 w2.heap.size k _ c0' fz' hpb).mono ?_
            rintro e w' ⟨rfl, W1, v, hg, hv, rfl⟩
            exact ⟨rfl, fin W1 v 1 (by omega) hg (by rw [hs0]; exact hv)⟩
          · cases hsl
            refine (push_some a 0 g 0 w2.heap.size s.stack.length _ (stackOf s) k _ c0' fz' (stackOf_len s).symm hcap (by omega) (fun j y hy => ?_) hpb).mono ?_
            · refine ⟨g, 0, rfl, ?_⟩
              have hy2 := intCells_get hy
              have hlj : j < (stackOf s).length := (List.getElem?_eq_some_iff.1 hy).1
              rw [Nat.zero_add]
              exact (h9.cellAt j (by rw [← stackOf_len]; omega)).trans hy2
            · rintro e w' ⟨rfl, W1, v, hg, hv, rfl⟩
              exact ⟨rfl, fin W1 v _ rfl hg hv⟩)
        go_wp2_with fail
        refine HP.out.mono ?_
        rintro e w3 ⟨rfl, v, hM3, hB3, A', c', rfl⟩
        have HM3 := Lib.hid hM3
        have HB3 := Lib.hid hB3
        clear HP hM3 hB3 cm cx0 cx1 cx2 HM2 HB2 c0 fz hnx
        have cm := HM3.out.bm.cell
        have c0 := HM3.out.c0
        have c3 := HM3.out.c3
        have z3 := HM3.out.fz 3
        have hmx : max (s.most : Int) ((s.stack.length : Int) + 1) = ((max s.most (s.stack.length + 1) : Nat) : Int) := by omega
        have hmx2 : max (s.most : Int) ((s.stack.length + 1 : Nat) : Int) = ((max s.most (s.stack.length + 1) : Nat) : Int) := by omega
        go_wp2_with fail
        go_region
        have hM5 := (HM3.out.setMost ((max s.most (s.stack.length + 1) : Nat) : Int)).drew
        have hB5 := (HB3.out.kept (KeepsOthers.setCell w3 ⟨a, 3, none⟩ (.int .i64 ((max s.most (s.stack.length + 1) : Nat) : Int)))).kept (KeepsOthers.drew _)
        obtain ⟨fn, tmps, assign, body, hy, hR⟩ := HY.out _ _ _ _ _ _ _ _ _ (k : Int) (s.stack.length : Int) hM5 hB5 (by rw [deepsOf_len]; omega)
        have HRo := Lib.hid hR
        clear hR hM5 hB5 HM3 HB3
        go_upto_region 17 with fail
        refine (wpIn_wide (n := n + 1)).1 ?_
        gi_wp2_with fail
        refine HRo.out.mono ?_
        rintro e w4 ⟨rfl, hB4, dv', hM4⟩
        gi_wp2_with fail
        go_wp2_with fail
        go_roundw
        case rel => exact ⟨k + 1, _, _, _, _, by go_num, StepAt.next (by omega) hst.out hM4 (by simp [stackOf, h1]) (pairsOf_succ hlt rfl) deepsOf_snoc.symm rfl hB4⟩
        case measure => simp [intOf]; omega
      · have Hgl := Lib.hid hgl2
        clear hgl2
        rw [hok]
        rw [hbk] at HK1
        go_wp2_with fail
        refine (HK1.out _).mono ?_
        rintro r' w3 ⟨rfl, hb⟩
        have hnx3 : w3.heap[wr.heap.size]? = some (.cells #[.int .i64 x.kind, .string x.text, .string x.glyph] 30 (0, 0)) := (hb.block _ (Array.getElem?_eq_some_iff.1 hnx.out).1).trans hnx.out
        have HM3 := Lib.hid (HM2.out.below hb)
        have HB3 := Lib.hid (HB2.out.kept (others_of_below hb))
        clear hb HK1 HM2 HB2 cm cx0 cx1 cx2 hnx
        have cm := HM3.out.bm.cell
        have c0 := HM3.out.c0
        rw [stackOf_len] at c0
        have c4 := HM3.out.c4
        have z0 := HM3.out.fz 0
        have z4 := HM3.out.fz 4
        have cx2 : w3.cell? ⟨wr.heap.size, 2, none⟩ = some (.string x.glyph) := by simp [World.cell?, hnx3]
        have cg : w3.cell? ⟨0, 0, none⟩ = some (.iface 109 (.pointer (some bq))) := (HM3.out.low.cell (p := ⟨0, 0, none⟩) (cell_lt hg)).trans hg
        cases hs : s.stack with
        | nil =>
          have hst : Hid (Brs.none0.run (brs l) = none) := Lib.hid (run_fail (k := k + 1) (by rw [HR.out, hb0]; simp [Brs.step, hs]))
          have hs0 : s.stack.length = 0 := by rw [hs]; rfl
          rw [hs0] at c0
          have HPop := Lib.hid (pop_no a 0 c5 S0 w3 c0)
          have e0 : x.glyph ≠ ByteArray.empty := by rw [Hgl.out]; exact closerOf_ne kb
          have e1 := empty_not e0
          have e2 : (([] : List UInt8) == x.glyph.toList) = false := by
            cases h : x.glyph.toList with
            | nil => rw [h] at e1; cases e1
            | cons y l => rfl
          have e3 := bytes_beq_no (Ne.symm e0)
          clear hs e0
          go_wp2_with fail
          refine HPop.out.mono ?_
          rintro r' w4 ⟨rfl, h⟩
          subst h
          go_wp2_with fail
          try rw [Exit.noGoto_normal]
          go_end0
          exact ⟨⟨_, rfl⟩, HB3.out.kept (KeepsOthers.setCell _ _ _), Or.inr ⟨hst.out, _, _, _, _, _, _, _, _, HM3.out.setErr _⟩⟩
        | cons qc rr =>
          obtain ⟨q, cb⟩ := qc
          obtain ⟨hq, hql, y, hy, hyb⟩ := HS.out q cb rr hs
          have hyk := br_open hyb
          have hyg := (hl2 q y hy).2
          have hlen : s.stack.length = rr.length + 1 := by rw [hs]; rfl
          have hso := stackOf_cons hs
          have HQ := Lib.hid hs
          have hM3' := HM3.out
          have hst4 := hM3'.stk
          rw [stackOf_len, hlen, hso, intCells_append] at hst4
          obtain ⟨g, cap, hg9, hgb, hgl9, hgc⟩ := own_form hst4 (by omega)
          cases hg9
          have ctop : w3.cell? ⟨g, 0 + rr.length, none⟩ = some (.int .i64 (q : Int)) := by
            rw [Nat.zero_add, hst4.cellAt rr.length (by omega), List.getElem?_append_right (by simp [intCells])]
            simp [intCells]
          rw [hlen] at c0
          have HPop := Lib.hid (pop_yes a 0 g 0 rr.length c5 q w3 c0 z0 hgc (by omega) ctop)
          have hpop := ownsRow_pop (by simp [intCells]) hst4
          have hlr : (rr.map (fun x => (x.1 : Int))).reverse.length = rr.length := by simp
          have HM4 := Lib.hid (hM3'.setStack (.slice (some ⟨g, 0, none⟩) rr.length c5) (rr.map (fun x => (x.1 : Int))).reverse (by rw [hlr]; exact hpop) (fun b hb he => hM3'.f1 b hb he) (fun b hb he => hM3'.f3 b hb he))
          have HB4 := Lib.hid (HB3.out.kept (KeepsOthers.setCell w3 ⟨a, 0, none⟩ (.slice (some ⟨g, 0, none⟩) rr.length c5)))
          have hna : wr.heap.size ≠ a := fun e => by
            have h8 := hM3'.ma
            rw [← e, hnx3] at h8
            cases h8
          have hnx4 : (w3.setCell ⟨a, 0, none⟩ (.slice (some ⟨g, 0, none⟩) rr.length c5)).heap[wr.heap.size]? = some (.cells #[.int .i64 x.kind, .string x.text, .string x.glyph] 30 (0, 0)) := ((grown_setCell w3 ⟨a, 0, none⟩ (.slice (some ⟨g, 0, none⟩) rr.length c5)).block _ (Array.getElem?_eq_some_iff.1 hnx3).1 (by simpa using hna)).trans hnx3
          have HO2 := Lib.hid (fun u => HO.out y u (by unfold maxLen; omega))
          unfold opensOut at HO2
          change Hid (∀ u, Calls _ _ _ u fun r w' => r = .returned (.tuple #[_, .bool y.ok]) ∧ _) at HO2
          rw [hyk.2.2.2.2, hyk.2.2.2.1] at HO2
          unfold Tok.val at HO2
          simp only [Option.getD_some] at HO2
          obtain ⟨w4, hw4⟩ : ∃ w4, w3.setCell ⟨a, 0, none⟩ (.slice (some ⟨g, 0, none⟩) rr.length c5) = w4 := ⟨_, rfl⟩
          rw [hw4] at HM4 HB4 hnx4 HPop
          clear hw4 hM3' hst4 hpop c0 c4 z0 z4 cx2 cg hnx3 hlr hna ctop hgc hso HM3 HB3 hyk hs hlen
          go_wp2_with fail
          refine HPop.out.mono ?_
          rintro r' w4' ⟨rfl, h⟩
          subst h
          clear cm
          have cm := HM4.out.bm.cell
          have c1 := HM4.out.c1
          obtain ⟨b9, off9, e9, y1, y2, y3⟩ := (hh.below HM4.out.low) q y hy
          cases e9
          clear hy hyb HPop
          go_wp2_with fail
          refine (HO2.out _).mono ?_
          rintro r' w5 ⟨rfl, hb⟩
          have hnx5 : w5.heap[wr.heap.size]? = some (.cells #[.int .i64 x.kind, .string x.text, .string x.glyph] 30 (0, 0)) := (hb.block _ (Array.getElem?_eq_some_iff.1 hnx4).1).trans hnx4
          have HM5 := Lib.hid (HM4.out.below hb)
          have HB5 := Lib.hid (HB4.out.kept (others_of_below hb))
          clear hb HO2 HM4 HB4 cm c1 y1 y2 y3 hnx4
          have cm := HM5.out.bm.cell
          have cx2 : w5.cell? ⟨wr.heap.size, 2, none⟩ = some (.string x.glyph) := by simp [World.cell?, hnx5]
          have cg : w5.cell? ⟨0, 0, none⟩ = some (.iface 109 (.pointer (some bq))) := (HM5.out.low.cell (p := ⟨0, 0, none⟩) (cell_lt hg)).trans hg
          have c4 := HM5.out.c4
          have z4 := HM5.out.fz 4
          by_cases hcb : cb = kb
          · have hst : Hid (Brs.none0.run (brs (l.take (k + 1))) = some ⟨rr, s.pairs.set q s.pairs.length ++ [(q : Int)], s.deeps ++ [rr.length], s.most⟩) := Lib.hid (by rw [HR.out, hb0]; simp [Brs.step, HQ.out, hcb])
            have eq1 := bytes_beq_yes (show closerOf cb = x.glyph by rw [hcb, Hgl.out])
            clear hcb
            generalize closerOf cb = cz at *
            have hpl := pairsOf_len hlt h1
            have hprs := HM5.out.prs
            rw [hpl] at hprs
            obtain ⟨g9, cap9, rfl, o1, o2, o3⟩ := own_form hprs (by omega)
            have hq9 : ∃ v, (intCells (pairsOf l k s))[q]? = some v := ⟨_, List.getElem?_eq_getElem (by rw [intCells_length, hpl]; omega)⟩
            obtain ⟨v9, hv9⟩ := hq9
            have cq : w5.cell? ⟨g9, q, none⟩ = some v9 := (hprs.cellAt q (by omega)).trans hv9
            have zq : w5.frozen? ⟨g9, q, none⟩ = false := hprs.frozenAt q
            have zk : w5.frozen? ⟨g9, k, none⟩ = false := hprs.frozenAt k
            have HM6 := Lib.hid (HM5.out.setPair hpl.symm q (k : Int))
            have hk9 : ∃ v, (intCells ((pairsOf l k s).set q (k : Int)))[k]? = some v := ⟨_, List.getElem?_eq_getElem (by rw [intCells_length, List.length_set, hpl]; omega)⟩
            obtain ⟨v10, hv10⟩ := hk9
            have hprs6 := HM6.out.prs
            rw [List.length_set, hpl] at hprs6
            have ck : (w5.setCell ⟨g9, q, none⟩ (.int .i64 (k : Int))).cell? ⟨g9, k, none⟩ = some v10 := (hprs6.cellAt k (by omega)).trans hv10
            have HM7 := Lib.hid (HM6.out.setPair (by rw [List.length_set]; exact hpl.symm) k (q : Int))
            have HB7 := Lib.hid ((HB5.out.kept (KeepsOthers.setCell w5 ⟨g9, q, none⟩ (.int .i64 (k : Int)))).kept (KeepsOthers.setCell _ ⟨g9, k, none⟩ (.int .i64 (q : Int))))
            have c2 := HM5.out.c2
            have c2' := HM6.out.c2
            have cm' := HM6.out.bm.cell
            have c2'' := HM7.out.c2
            have cm'' := HM7.out.bm.cell
            have c0'' := HM7.out.c0
            have m3 : (q : Int) < (l.length : Int) := by omega
            clear hprs hprs6 hv9 hv10 hpl HM5 HB5 c4 z4
            go_wp2_with fail
            refine wp_region_ord (S := fun w' => w'.cell? ⟨Bm, 0, none⟩ = some (.pointer (some ⟨a, 0, none⟩)) ∧ w'.cell? ⟨a, 2, none⟩ = some (.slice (some ⟨g9, 0, none⟩) l.length cap9)) [0, 1, 2, 3, 4, 5, 6, 7, 8, 9, 10, 11, 12] [13, 14, 15] (by kernel_rfl) (by kernel_rfl) (fun _ _ _ _ _ h => h) ⟨cm, c2⟩ ?_
            simp only [pick, List.filterMap_cons, List.filterMap_nil, List.getElem?_toArray, List.getElem?_cons_zero, List.getElem?_cons_succ]
            repeat (refine wpHead_step (v := ?_) rfl ?_ ?_; rotate_left; (focus (rintro w1 ⟨cm, c2⟩; go_simp; try with_reducible rfl)); simp only [Act.put, List.setIfInBounds_toArray, List.set_cons_zero, List.set_cons_succ])
            refine wpHead_nil ?_
            refine wpTail_step rfl (fun K hK => ?_)
            go_wp2_with fail
            refine hK _ _ ⟨cm', c2'⟩ ?_
            clear hK K
            try simp only [Act.put, List.setIfInBounds_toArray, List.set_cons_zero, List.set_cons_succ]
            refine wpTail_step rfl (fun K hK => ?_)
            go_wp2_with fail
            refine hK _ _ ⟨cm', c2'⟩ ?_
            clear hK K
            try simp only [Act.put, List.setIfInBounds_toArray, List.set_cons_zero, List.set_cons_succ]
            refine wpTail_step rfl (fun K hK => ?_)
            go_wp2_with fail
            refine hK _ _ ⟨cm'', c2''⟩ ?_
            clear hK K
            try simp only [Act.put, List.setIfInBounds_toArray, List.set_cons_zero, List.set_cons_succ]
            refine wpTail_nil ?_
            have hM8 := HM7.out.drew
            have hB8 := HB7.out.kept (KeepsOthers.drew _)
            obtain ⟨fn, tmps, assign, body, hy, hR⟩ := HY.out _ _ _ _ _ _ _ _ _ (k : Int) (rr.length : Int) hM8 hB8 (by rw [deepsOf_len]; omega)
            have HRo := Lib.hid hR
            clear hR hM8 hB8 HM6 HM7 HB7 ck cq zq zk c2 c2' c2'' cm cm' cx2 cg
            go_upto_region 17 with fail
            refine (wpIn_wide (n := n + 1)).1 ?_
            gi_wp2_with fail
            refine HRo.out.mono ?_
            rintro e w6 ⟨rfl, hB9, dv', hM9⟩
            gi_wp2_with fail
            go_wp2_with fail
            go_roundw
            case rel => exact ⟨k + 1, _, _, _, _, by go_num, StepAt.next (by omega) hst.out hM9 rfl (pairsOf_close hlt h1 hq) deepsOf_snoc.symm rfl hB9⟩
            case measure => simp [intOf]; omega
          · have hst : Hid (Brs.none0.run (brs l) = none) := Lib.hid (run_fail (k := k + 1) (by rw [HR.out, hb0]; simp [Brs.step, HQ.out, hcb]))
            have eq1 := bytes_beq_no (show closerOf cb ≠ x.glyph by rw [Hgl.out]; exact fun e => hcb (closerOf_inj.1 e))
            clear hcb
            generalize closerOf cb = cz at *
            go_wp2_with fail
            try rw [Exit.noGoto_normal]
            go_end0
            exact ⟨⟨_, rfl⟩, HB5.out.kept (KeepsOthers.setCell _ _ _), Or.inr ⟨hst.out, _, _, _, _, _, _, _, _, HM5.out.setErr _⟩⟩
    · obtain rfl : k = l.length := by omega
      rw [List.take_of_length_le (Nat.le_refl _)] at hrun
      have Hrun := Lib.hid hrun
      clear hrun
      go_wp2_with fail
      try rw [Exit.noGoto_normal]
      go_end0
      refine ⟨⟨_, rfl⟩, hbooks, Or.inl ⟨s, sv, pv, dv, Hrun.out, ?_⟩⟩
      have e : pairsOf l l.length s = s.pairs := by simp [pairsOf]
      rw [← e]
      exact hmat
end Go.Proofs.YtlokkdbgihbnhabDoor
