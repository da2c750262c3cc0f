/-
  Partners, by the document's program text.
-/
import Derived.Test.YtlokkdbgihbnhaaDoorProg
import Derived.Test.YtlokkdbgihbnhaaDoorReg
import Derived.WalkKit
import Derived.WalkSpells
import Derived.WalkLawsBesides
import Derived.Lib.Hide
import Derived.Lib.MinMax
import Derived.Deep.QuietTactic
import Derived.BigQuiet
import Derived.OwnWalk
import Derived.Deep.AppendLies
import Derived.KernelRfl
import Derived.ArgAppend
import Derived.Maps.AppendAt
import Derived.WalkSmall
import Derived.OneCell
import Derived.Laws.Rows
import Derived.Test.YtlokkdbgihbnhaaDoorRegG
import Derived.Test.YtlokkdbgihbnhaaDoorGrpH
import Derived.Test.YtlokkdbgihbnhaaDoorGrpI
import Derived.Test.YtlokkdbgihbnhaaDoorGrpO
set_option linter.unusedSimpArgs false
set_option linter.unusedVariables false
namespace Go.Proofs.YtlokkdbgihbnhaaDoor
open Go.RowKit

theorem intCells_get {l : List Int} {k : Nat} {x : Int} (h : l[k]? = some x) : (intCells l)[k]? = some (.int .i64 x) := by simp [intCells, h]
theorem intCells_set (l : List Int) (k : Nat) (x : Int) : (intCells l).set k (.int .i64 x) = intCells (l.set k x) := by simp [intCells, List.map_set]

/-- A row that the call owns, of numbers: whether it is one of them, at which place. -/
theorem own_int {w : World} {base : Nat} {e : TypeId} {v : Value} {n : Nat} {l : List Int} (h : w.ownsRow base e 1 v n (intCells l)) : n = l.length := by
  have h1 := h.1
  rw [intCells_length] at h1
  omega
theorem own_form {w : World} {base : Nat} {e : TypeId} {v : Value} {n : Nat} {xs : List Value} (h : w.ownsRow base e 1 v n xs) (hn : 0 < n) : ∃ g cap, v = .slice (some ⟨g, 0, none⟩) n cap ∧ base ≤ g ∧ g < w.heap.size ∧ n ≤ cap := by
  rcases h.2 with ⟨_, h0⟩ | ⟨g, cap, cur, hv, hb, hg, hc, _⟩
  · omega
  · exact ⟨g, cap, hv, hb, (Array.getElem?_eq_some_iff.1 hg).1, hc⟩

def stackOf (s : Brs) : List Int := (s.stack.map (fun x => (x.1 : Int))).reverse
theorem stackOf_cons {s : Brs} {q : Nat} {b : Bool} {r : List (Nat × Bool)} (h : s.stack = (q, b) :: r) : stackOf s = (r.map (fun x => (x.1 : Int))).reverse ++ [(q : Int)] := by
  unfold stackOf
  rw [h]
  simp
theorem stackOf_len (s : Brs) : (stackOf s).length = s.stack.length := by simp [stackOf]

/-- What stands at the head of round k. -/
structure RMatchAt (l : List Tok) (w0 wr : World) (o v : Value) (d : Int) (k : Nat) (s : Brs) : Prop where
  le : k ≤ l.length
  run : Brs.none0.run (brs (l.take k)) = some s
  out : wr.ownsRow w0.heap.size 3 1 o k (intCells s.pairs)
  stk : wr.ownsRow w0.heap.size 3 1 v s.stack.length (intCells (stackOf s))
  far : ∀ b, o.ownBlock = some b → v.ownBlock ≠ some b
  deep : d = s.most
  low : Below w0.heap.size w0 wr

theorem pairs_two {P : List Int} {k q : Nat} (hk : k = P.length) (hq : q < k) : ((P ++ [-1]).set q (k : Int)).set k (q : Int) = P.set q (k : Int) ++ [(q : Int)] := by
  subst hk
  rw [List.set_append_left _ _ hq, List.set_append_right _ _ (by simp)]
  simp

theorem far_left {o o' v : Value} {n : Nat} (h : ∀ b, o.ownBlock = some b → v.ownBlock ≠ some b) (hat : o'.ownBlock = o.ownBlock ∨ o'.ownBlock = some n) (hv : ∀ b, v.ownBlock = some b → b < n) : ∀ b, o'.ownBlock = some b → v.ownBlock ≠ some b := fun b hb he => by
  rcases hat with e | e
  · exact h b (e ▸ hb) he
  · rw [e] at hb
    cases hb
    have := hv _ he
    omega
theorem far_right {o v v' : Value} {n : Nat} (h : ∀ b, o.ownBlock = some b → v.ownBlock ≠ some b) (hat : v'.ownBlock = v.ownBlock ∨ v'.ownBlock = some n) (ho : ∀ b, o.ownBlock = some b → b < n) : ∀ b, o.ownBlock = some b → v'.ownBlock ≠ some b := fun b hb he => by
  rcases hat with e | e
  · exact h b hb (e ▸ he)
  · rw [e] at he
    cases he
    have := ho _ hb
    omega
theorem far_row {o v : Value} (h : ∀ b, o.ownBlock = some b → v.ownBlock ≠ some b) : v.ownBlock = none ∨ v.ownBlock ≠ o.ownBlock := by
  cases hv : v.ownBlock with
  | none => exact Or.inl rfl
  | some b => exact Or.inr fun e => h b e.symm hv
theorem far_row' {o v : Value} (h : ∀ b, o.ownBlock = some b → v.ownBlock ≠ some b) : o.ownBlock = none ∨ o.ownBlock ≠ v.ownBlock := by
  cases ho : o.ownBlock with
  | none => exact Or.inl rfl
  | some b => exact Or.inr fun e => h b ho e.symm

set_option maxRecDepth 100000 in
set_option maxHeartbeats 8000000 in
theorem rmatch_any (A : Option Addr) (c : Nat) (l : List Tok) (w : World) (hl : mildT l) (hh : HoldsT w A l) :
    Calls Tryd.prog 12 #[.slice A l.length c] w (TellsI w (matchOf l) (codeOf l)) := by
  obtain ⟨i0, hi0, hz0, hz1, hz2⟩ := info_parts infoInt
  obtain ⟨hl1, hl2⟩ := hl
  have HO := Lib.hid ropens_any
  have HC := Lib.hid rcloses_any
  have HP := Lib.hid partners_any
  go_enter Tryd.func12, Tryd.ntmps12
  go_wp2
  go_loopw [4, 5, 6, 7] (fun o v d i wr => ∃ (k : Nat) (dp : Int) (s : Brs), i = .int .i64 k ∧ d = .int .i64 dp ∧ RMatchAt l w wr o v dp k s)
    (fun _ _ _ i _ => l.length - (intOf i).toNat)
  case atStart => exact ⟨0, 0, .none0, rfl, rfl, by omega, rfl, World.ownsRow_nil _ _ _ _, World.ownsRow_nil _ _ _ _, fun b h => by simp [Value.ownBlock] at h, rfl, Below.refl _ _⟩
  case round =>
    obtain ⟨k, dp, s, rfl, rfl, hle, hrun, hout, hstk, hfar, rfl, hlow⟩ := hrel
    by_cases hlt : k < l.length
    · have hx : l[k]? = some l[k] := List.getElem?_eq_getElem hlt
      have hR := run_snoc hx
      rw [hrun] at hR
      have hlens := run_lens hrun hle
      have HT := Lib.hid (fun (u : World) (hb : Below w.heap.size w u) => (hh.below hb) k l[k] hx)
      have HS := Lib.hid (fun q b r (h : s.stack = (q, b) :: r) => top_open hrun h)
      have hgl := (hl2 k _ hx).2
      generalize l[k] = x at *
      have HR := Lib.hid hR
      have Hrun := Lib.hid hrun
      clear hR hrun hx
      have hsz := hlow.size
      have geo := ownBlock_ge hout
      have ltv := ownBlock_lt hstk
      have Far := Lib.hid hfar
      clear hfar
      obtain ⟨h1, h2, h3, h4, h5⟩ := hlens
      go_wp2_with (at_builtin; refine wpList_append_own_at _ rfl _ _ 25 rfl w.heap.size 3 i0 _ 1 8 Tryd.underlying25 hi0 hz0 hz1 hz2 rfl (by decide) u4 k (intCells s.pairs) rfl (hout.alloc _) ⟨wr.heap.size, 0, none⟩ 1 1 [.int .i64 (-1)] rfl rfl (cell_one_new _ _ _) (by simp [Value.oneCell']) (by unfold maxLen; omega) (by omega) (by simp; omega) ?_; intro o1 w1 hout1 hg1 _ hat1; have hlow1 : Hid (Below w.heap.size w w1) := Lib.hid ((hlow.alloc hsz _).grown hg1 (by simp; omega) geo); have hstk1 : Hid (w1.ownsRow w.heap.size 3 1 u5 s.stack.length (intCells (stackOf s))) := Lib.hid ((hstk.alloc _).kept hg1 (far_row Far.out)); have Far1 := Lib.hid (far_left Far.out hat1 (fun b hb => by have := ltv b hb; simp; omega)); obtain ⟨b, off, rfl, c1, c2, c3⟩ := HT.out w1 hlow1.out; have lt1 := cell_lt c1)
      refine (HO.out x w1).mono ?_
      rintro r w2 ⟨rfl, hb⟩
      have hout2 : Hid (w2.ownsRow w.heap.size 3 1 o1 (k + 1) (intCells (s.pairs ++ [-1]))) := Lib.hid (by rw [intCells_append]; exact own_below hout1 hb)
      have hstk2 := Lib.hid (own_below hstk1.out hb)
      have hlow2 := Lib.hid (hlow1.out.trans (hb.mono hlow1.out.size))
      obtain ⟨b', off', e', c1', c2', c3'⟩ := HT.out w2 hlow2.out
      cases e'
      clear c1 c2 c3 lt1 hout1 hstk1 hout hstk hg1 hat1 hb
      have lt2 := cell_lt c1'
      rcases br_ways x with ⟨hb0, ho, hcl, -⟩ | ⟨kb, hb0, ho, hcl, -⟩ | ⟨kb, hb0, ho, hcl, -⟩
      · have hst : Hid (Brs.none0.run (brs (l.take (k + 1))) = some ⟨s.stack, s.pairs ++ [-1], s.deeps ++ [s.stack.length], s.most⟩) := Lib.hid (by rw [HR.out, hb0]; rfl)
        rw [ho]
        have HC1 := Lib.hid (HC.out x)
        rw [hcl] at HC1
        go_wp2_with fail
        refine (HC1.out _).mono ?_
        rintro r w3 ⟨rfl, hb⟩
        go_wp2_with fail
        go_roundw
        case rel => exact ⟨k + 1, _, _, by go_num, rfl, by omega, hst.out, own_below hout2.out hb, own_below hstk2.out hb, Far1.out, rfl, hlow2.out.trans (hb.mono hlow2.out.size)⟩
        case measure => simp [intOf]; omega
      · have hst : Hid (Brs.none0.run (brs (l.take (k + 1))) = some ⟨(s.pairs.length, kb) :: s.stack, s.pairs ++ [-1], s.deeps ++ [s.stack.length], max s.most (s.stack.length + 1)⟩) := Lib.hid (by rw [HR.out, hb0]; rfl)
        rw [ho]
        have HC1 := Lib.hid (HC.out x)
        rw [hcl] at HC1
        have ltk := ownBlock_lt hstk2.out
        have lto := ownBlock_lt hout2.out
        have gek := ownBlock_ge hstk2.out
        have l2 := hlow2.out.size
        have hmx : max (s.most : Int) ((s.stack.length : Int) + 1) = ((max s.most (s.stack.length + 1) : Nat) : Int) := by omega
        have hmx2 : max (s.most : Int) ((s.stack.length + 1 : Nat) : Int) = ((max s.most (s.stack.length + 1) : Nat) : Int) := by omega
        go_wp2_with (at_builtin; refine wpList_append_own_at _ rfl _ _ 25 rfl w.heap.size 3 i0 _ 1 8 Tryd.underlying25 hi0 hz0 hz1 hz2 rfl (by decide) u5 s.stack.length (intCells (stackOf s)) rfl (hstk2.out.alloc _) ⟨w2.heap.size, 0, none⟩ 1 1 [.int .i64 k] rfl rfl (cell_one_new _ _ _) (by simp [Value.oneCell']) (by unfold maxLen; omega) (by omega) (by simp; omega) ?_; intro v1 w3 hstk3 hg3 _ hat3; have hlow3 : Hid (Below w.heap.size w w3) := Lib.hid ((hlow2.out.alloc l2 _).grown hg3 (by simp; omega) gek); have hout3 : Hid (w3.ownsRow w.heap.size 3 1 o1 (k + 1) (intCells (s.pairs ++ [-1]))) := Lib.hid ((hout2.out.alloc _).kept hg3 (far_row' Far1.out)); have Far3 := Lib.hid (far_right Far1.out hat3 (fun b hb => by have := lto b hb; simp; omega)); obtain ⟨b4, off4, e4, d1, d2, d3⟩ := HT.out w3 hlow3.out; cases e4; have lt3 := cell_lt d1; obtain ⟨A4, c4, rfl⟩ := owns_slice hstk3)
        refine (HC1.out _).mono ?_
        rintro r w4 ⟨rfl, hb⟩
        go_wp2_with fail
        go_roundw
        case rel =>
          refine ⟨k + 1, _, _, by go_num, rfl, by omega, hst.out, own_below hout3.out hb, ?_, Far3.out, ?_, hlow3.out.trans (hb.mono hlow3.out.size)⟩
          · have e : stackOf ⟨(s.pairs.length, kb) :: s.stack, s.pairs ++ [-1], s.deeps ++ [s.stack.length], max s.most (s.stack.length + 1)⟩ = stackOf s ++ [(k : Int)] := by
              rw [stackOf_cons rfl, h1]; rfl
            rw [e, intCells_append]
            exact own_below hstk3 hb
          · rfl
        case measure => simp [intOf]; omega
      · rw [ho]
        have HC1 := Lib.hid (HC.out x)
        rw [hcl] at HC1
        go_wp2_with fail
        refine (HC1.out _).mono ?_
        rintro r w3 ⟨rfl, hb⟩
        have hout3 := Lib.hid (own_below hout2.out hb)
        have hstk3 := Lib.hid (own_below hstk2.out hb)
        have hlow3 := Lib.hid (hlow2.out.trans (hb.mono hlow2.out.size))
        obtain ⟨b4, off4, e4, d1, d2, d3⟩ := HT.out w3 hlow3.out
        cases e4
        clear hb c1' c2' c3' lt2 HC1 hlow2 hstk2 hout2
        have lt3 := cell_lt d1
        cases hs : s.stack with
        | nil =>
          have hst : Hid (codeOf l = 60) := Lib.hid (codeOf_fail (k := k + 1) (by rw [HR.out, hb0]; simp [Brs.step, hs]))
          have hm := Lib.hid (matchOf_no (l := l) (by rw [hst.out]; omega))
          have hs0 : s.stack.length = 0 := by rw [hs]; rfl
          clear hs
          rw [hs0] at hstk3
          obtain ⟨A5, c5, rfl⟩ := owns_slice hstk3.out
          go_wp2_with fail
          go_quiet (fail)
          go_wp2_with fail
          go_ret2
          exact TellsI.mk none 0 0 (by rw [hm.out]; rfl) hst.out.symm (by rw [hm.out]; exact HoldsI.nil _ _) (below_drewN hlow3.out _)
        | cons qc r =>
          obtain ⟨q, cb⟩ := qc
          obtain ⟨hq, hql, y, hy, hyb⟩ := HS.out q cb r hs
          have hp2 := pair2_is hyb hb0
          have HQ := Lib.hid hs
          have hlen : s.stack.length = r.length + 1 := by rw [hs]; rfl
          have hso := stackOf_cons hs
          obtain ⟨bq, offq, eq_, f1, f2, f3⟩ := (hh.below hlow3.out) q y hy
          cases eq_
          have hstk4 : Hid (w3.ownsRow w.heap.size 3 1 u5 (r.length + 1) (intCells (r.map (fun x => (x.1 : Int))).reverse ++ [.int .i64 (q : Int)])) := Lib.hid (by rw [← hlen]; rw [hso, intCells_append] at hstk3; exact hstk3.out)
          clear hstk3
          obtain ⟨g, cap, rfl, hg1, hg2, hg3⟩ := own_form hstk4.out (by omega)
          have ctop : w3.cell? ⟨g, r.length, none⟩ = some (.int .i64 (q : Int)) := by
            rw [hstk4.out.cellAt r.length (by omega), List.getElem?_append_right (by simp [intCells])]
            simp [intCells]
          have e1 : IntKind.i64.wrap (((r.length + 1 : Nat) : Int) - 1) = (r.length : Int) := by rw [IntWalk.i64_in] <;> omega
          have e2 : ((r.length + 1 : Nat) : Int) - 1 = (r.length : Int) := by omega
          have n0 : (((r.length + 1 : Nat) : Int) == 0) = false := by simp; omega
          have n1 : (q : Int) < (l.length : Int) := by omega
          have e3 : IntKind.i64.wrap (r.length : Int) = (r.length : Int) := by rw [IntWalk.i64_in] <;> omega
          have n2 : ((r.length : Int) + 1 == 0) = false := by simp; omega
          have n3 : (r.length : Int) < (r.length : Int) + 1 := by omega
          have HP1 := Lib.hid (HP.out y x)
          rw [hp2] at HP1
          unfold Tok.val at HP1
          clear hs hp2 hy hso hlen
          go_wp2_with fail
          refine wp_region_ord (S := fun w' => w'.cell? ⟨g, r.length, none⟩ = some (.int .i64 (q : Int)) ∧ (w'.cell? ⟨b, off + k * 3, none⟩ = some (.int .i64 x.kind) ∧ w'.cell? ⟨b, off + k * 3 + 1, none⟩ = some (.string x.text) ∧ w'.cell? ⟨b, off + k * 3 + 2, none⟩ = some (.string x.glyph)) ∧ w'.cell? ⟨b, off + q * 3, none⟩ = some (.int .i64 y.kind) ∧ w'.cell? ⟨b, off + q * 3 + 1, none⟩ = some (.string y.text) ∧ w'.cell? ⟨b, off + q * 3 + 2, none⟩ = some (.string y.glyph)) [0, 1, 2, 3, 4, 5, 6, 7, 8, 9, 10, 11, 12, 13, 14, 15, 16] [17, 18, 19] (by kernel_rfl) (by kernel_rfl) (fun _ _ _ _ _ h => h) ⟨ctop, ⟨d1, d2, d3⟩, f1, f2, f3⟩ ?_
          simp only [pick, List.filterMap_cons, List.filterMap_nil, List.getElem?_toArray, List.getElem?_cons_zero, List.getElem?_cons_succ]
          repeat (first | (refine wpHead_step (v := ?_) rfl ?_ ?_; rotate_left; (focus (rintro w1 ⟨ctop, ⟨d1, d2, d3⟩, f1, f2, f3⟩; go_simp; try with_reducible rfl))) | (refine wpHead_step_w (v := ?_) (by kernel_rfl) ?_ ?_; rotate_left; (focus (rintro w1 ⟨ctop, ⟨d1, d2, d3⟩, f1, f2, f3⟩; go_simp; try with_reducible rfl))); simp only [Act.put, List.setIfInBounds_toArray, List.set_cons_zero, List.set_cons_succ])
          refine wpHead_nil ?_
          refine wpTail_step_w (by kernel_rfl) (fun K hK => ?_)
          go_wp2_with fail
          refine (HP1.out _).mono ?_
          rintro r4 w4 ⟨rfl, hb⟩
          have lq := cell_lt f1
          have kc : ∀ {b o : Nat} {v : Value}, w3.cell? ⟨b, o, none⟩ = some v → w4.cell? ⟨b, o, none⟩ = some v := fun h => (hb.cell (p := ⟨_, _, none⟩) (by have := cell_lt h; simpa using this)).trans h
          have tc := kc ctop
          have t1 := kc d1
          have t2 := kc d2
          have t3 := kc d3
          have s1 := kc f1
          have s2 := kc f2
          have s3 := kc f3
          have hb' : Below w3.heap.size w3 w4 := (Below.refl _ _).drew.trans hb
          have hout4 := Lib.hid (own_below hout3.out hb')
          have hstk5 := Lib.hid (own_below hstk4.out hb')
          have hlow4 := Lib.hid (hlow3.out.trans (hb'.mono hlow3.out.size))
          clear hb hb' kc ctop d1 d2 d3 f1 f2 f3 hout3 hstk4 hlow3 HP1
          by_cases hcb : cb = kb
          · have hdc : decide (cb = kb) = true := by simpa using hcb
            rw [hdc]
            go_wp2_with fail
            refine hK _ _ ⟨tc, ⟨t1, t2, t3⟩, s1, s2, s3⟩ ?_
            clear hK K
            try simp only [Act.put, List.setIfInBounds_toArray, List.set_cons_zero, List.set_cons_succ]
            refine wpTail_step_w (by kernel_rfl) (fun K hK => ?_)
            go_wp2_with fail
            refine hK _ _ ⟨tc, ⟨t1, t2, t3⟩, s1, s2, s3⟩ ?_
            clear hK K
            try simp only [Act.put, List.setIfInBounds_toArray, List.set_cons_zero, List.set_cons_succ]
            refine wpTail_step rfl (fun K hK => ?_)
            go_wp2_with fail
            refine hK _ _ ⟨tc, ⟨t1, t2, t3⟩, s1, s2, s3⟩ ?_
            clear hK K
            try simp only [Act.put, List.setIfInBounds_toArray, List.set_cons_zero, List.set_cons_succ]
            refine wpTail_nil ?_
            have hst : Hid (Brs.none0.run (brs (l.take (k + 1))) = some ⟨r, s.pairs.set q s.pairs.length ++ [(q : Int)], s.deeps ++ [r.length], s.most⟩) := Lib.hid (by rw [HR.out, hb0]; simp [Brs.step, HQ.out, hcb])
            obtain ⟨g9, cap9, rfl, o1, o2, o3⟩ := own_form hout4.out (by omega)
            have hne : g ≠ g9 := fun e => Far1.out g9 rfl (by rw [e]; rfl)
            have hq9 : ∃ v, (intCells (s.pairs ++ [-1]))[q]? = some v := ⟨_, List.getElem?_eq_getElem (by rw [intCells_length, List.length_append]; simp; omega)⟩
            obtain ⟨v9, hv9⟩ := hq9
            have cq : w4.cell? ⟨g9, q, none⟩ = some v9 := (hout4.out.cellAt q (by omega)).trans hv9
            have zq : w4.frozen? ⟨g9, q, none⟩ = false := hout4.out.frozenAt q
            have zk : w4.frozen? ⟨g9, k, none⟩ = false := hout4.out.frozenAt k
            obtain ⟨hout5, hgr5⟩ := hout4.out.stored q (.int .i64 (k : Int))
            rw [intCells_set] at hout5
            have hk9 : ∃ v, (intCells ((s.pairs ++ [-1]).set q (k : Int)))[k]? = some v := ⟨_, List.getElem?_eq_getElem (by rw [intCells_length, List.length_set, List.length_append]; simp; omega)⟩
            obtain ⟨v10, hv10⟩ := hk9
            have ck : (w4.setCell ⟨g9, q, none⟩ (.int .i64 (k : Int))).cell? ⟨g9, k, none⟩ = some v10 := (hout5.cellAt k (by omega)).trans hv10
            obtain ⟨hout6, hgr6⟩ := hout5.stored k (.int .i64 (q : Int))
            rw [intCells_set, pairs_two h1.symm hq] at hout6
            have Hout6 := Lib.hid hout6
            have Hstk6 := Lib.hid (ownsRow_pop (by simp [intCells]) ((hstk5.out.kept hgr5 (Or.inr (by simp [Value.ownBlock]; exact hne))).kept hgr6 (Or.inr (by simp [Value.ownBlock]; exact hne))))
            have Hlow6 := Lib.hid ((hlow4.out.setCell (p := ⟨g9, q, none⟩) o1 (.int .i64 (k : Int))).setCell (p := ⟨g9, k, none⟩) o1 (.int .i64 (q : Int)))
            have m1 : (r.length : Int) ≤ (cap : Int) := by omega
            have m2 : (q : Int) < (k : Int) + 1 := by omega
            have m3 : (q : Int) < ((k + 1 : Nat) : Int) := by omega
            clear hout5 hgr5 hout6 hgr6 hv9 hv10 hcb hdc hstk5 hout4 t1 t2 t3 s1 s2 s3
            go_wp2_with fail
            go_roundw
            case rel => exact ⟨k + 1, _, _, by go_num, rfl, by omega, hst.out, by rw [h1]; exact Hout6.out, Hstk6.out, fun b hb he => hne (by simp [Value.ownBlock] at hb he; omega), rfl, Hlow6.out⟩
            case measure => simp [intOf]; omega
          · have hdc : decide (cb = kb) = false := by simpa using hcb
            rw [hdc]
            have hst : Hid (codeOf l = 60) := Lib.hid (codeOf_fail (k := k + 1) (by rw [HR.out, hb0]; simp [Brs.step, HQ.out, hcb]))
            have hm := Lib.hid (matchOf_no (l := l) (by rw [hst.out]; omega))
            clear hcb hdc
            go_wp2_with fail
            refine hK _ _ ⟨tc, ⟨t1, t2, t3⟩, s1, s2, s3⟩ ?_
            clear hK K
            try simp only [Act.put, List.setIfInBounds_toArray, List.set_cons_zero, List.set_cons_succ]
            refine wpTail_step_w (by kernel_rfl) (fun K hK => ?_)
            go_wp2_with fail
            refine hK _ _ ⟨tc, ⟨t1, t2, t3⟩, s1, s2, s3⟩ ?_
            clear hK K
            try simp only [Act.put, List.setIfInBounds_toArray, List.set_cons_zero, List.set_cons_succ]
            refine wpTail_step rfl (fun K hK => ?_)
            go_wp2_with fail
            refine hK _ _ ⟨tc, ⟨t1, t2, t3⟩, s1, s2, s3⟩ ?_
            clear hK K
            try simp only [Act.put, List.setIfInBounds_toArray, List.set_cons_zero, List.set_cons_succ]
            refine wpTail_nil ?_
            go_wp2_with fail
            go_ret2
            exact TellsI.mk none 0 0 (by rw [hm.out]; rfl) hst.out.symm (by rw [hm.out]; exact HoldsI.nil _ _) hlow4.out
    · obtain rfl : k = l.length := by omega
      rw [List.take_of_length_le (Nat.le_refl _)] at hrun
      obtain ⟨hc, hbr⟩ := code_end hrun
      obtain ⟨A', c', rfl⟩ := owns_slice hstk
      have hs0 : s.stack = [] ↔ s.stack.length = 0 := by cases s.stack <;> simp
      by_cases hs : s.stack.length = 0
      · rw [if_pos (hs0.2 hs)] at hc
        have q0 : ¬ (0 : Int) < (s.stack.length : Int) := by omega
        by_cases h20 : 20 < s.most
        · rw [if_pos h20] at hc
          have q : (20 : Int) < (s.most : Int) := by omega
          have hm := Lib.hid (matchOf_no (l := l) (by omega))
          replace hc := Lib.hid hc
          clear hbr hrun
          go_wp2
          go_ret2
          exact TellsI.mk none 0 0 (by rw [hm.out]; rfl) hc.out.symm (by rw [hm.out]; exact HoldsI.nil _ _) hlow
        · rw [if_neg h20] at hc
          have q : ¬ (20 : Int) < (s.most : Int) := by omega
          have hm := Lib.hid ((matchOf_yes hc).trans (congrArg Brs.pairs hbr))
          replace hc := Lib.hid hc
          clear hbr hrun
          go_wp2
          go_ret2
          obtain ⟨B, d, rfl, hn, hH, hcap⟩ := holdsI_of_own hout
          exact TellsI.mk B d _ (by rw [hm.out]) hc.out.symm (by rw [hm.out]; exact hH) hlow
      · rw [if_neg (fun e => hs (hs0.1 e))] at hc
        have q : (0 : Int) < (s.stack.length : Int) := by omega
        have hm := Lib.hid (matchOf_no (l := l) (by omega))
        replace hc := Lib.hid hc
        clear hbr hrun
        go_wp2
        go_ret2
        exact TellsI.mk none 0 0 (by rw [hm.out]; rfl) hc.out.symm (by rw [hm.out]; exact HoldsI.nil _ _) hlow
end Go.Proofs.YtlokkdbgihbnhaaDoor
