/-
  All matched: the matcher, the depths.
-/
import Derived.Test.YtlokkdbgihbnhabDoorProg
import Derived.Test.YtlokkdbgihbnhabDoorReg
import Derived.WalkKit
import Derived.WalkSpells
import Derived.WalkLawsBesides
import Derived.Lib.Hide
import Derived.Lib.MinMax
import Derived.Deep.QuietTactic
import Derived.BigQuiet
import Derived.OwnWalk
import Derived.Deep.AppendLies
import Derived.KernelRfl
import Derived.OwnWalkIn
import Derived.TacticsInMore
import Derived.LoopNIn
import Derived.LoopIn
import Derived.Deep.RegionLaw
import Derived.Deep.Cut
import Derived.ArgAppend
import Derived.Maps.AppendAt
import Derived.Maps.OwnIn
import Derived.Test.YtlokkdbgihbnhabDoorRegIn
import Derived.Test.YtlokkdbgihbnhabDoorRegG
import Derived.Test.YtlokkdbgihbnhabDoorGrpJb
set_option linter.unusedSimpArgs false
set_option linter.unusedVariables false
namespace Go.Proofs.YtlokkdbgihbnhabDoor
open Go Go.RowKit

attribute [local go_sem] Oper.semAt_some

theorem steps_any (a : Addr) (w : World) :
    Calls Tryd.prog 20 #[.pointer (some a)] w fun e w' => e = .returned (.func (.func 33) #[] #[.pointer (some ⟨w.heap.size, 0, none⟩)]) ∧ w' = w.alloc (.cells #[.pointer (some a)] 41) := by
  go_enter Tryd.func20, Tryd.ntmps20
  go_wp2
  go_ret
  exact ⟨rfl, rfl⟩

theorem others_of_row {W W' : World} {base : Nat} {e : TypeId} {size : Nat} {v : Value} {n : Nat} {xs : List Value} (h : W.ownsRow base e size v n xs) (hg : W.grownBy W' v.ownBlock) : KeepsOthers W W' :=
  KeepsOthers.of_grownBy hg (fun j o ej hj => by
    rcases h.2 with ⟨rfl, _⟩ | ⟨g, cap, cur, rfl, _, hgb, _⟩
    · simp [Value.ownBlock] at ej
    · obtain rfl : g = j := by simpa [Value.ownBlock] using ej
      rw [hgb] at hj; cases hj; rfl)

theorem others_drewN (W : World) (n : Nat) : KeepsOthers W (W.drewN n) := ⟨Nat.le_refl _, fun _ _ h _ => h⟩

/-- What 'match' tells. -/
def Matched (l : List Tok) (w : World) (e : Ending) (w' : World) : Prop :=
  ∃ (a : Nat) (dv pv ev : Value), e = .returned (.tuple #[.pointer (some ⟨a, 0, none⟩), dv]) ∧ Below w.heap.size w w' ∧ w'.cell? ⟨a, 2, none⟩ = some pv ∧ w'.cell? ⟨a, 4, none⟩ = some ev ∧
    ((codeOf l = 0 ∧ ev = .nilIface ∧ (∃ P c, pv = .slice P l.length c ∧ HoldsI w' P (brsOf l).pairs) ∧ ∃ D c, dv = .slice D l.length c ∧ HoldsI w' D (deepsOf (brsOf l))) ∨
     (codeOf l ≠ 0 ∧ ∃ p v, ev = .iface 59 (.agg #[.int .i64 (codeOf l), .int .i64 p, v]) ∧ v.oneCell' = true))

theorem matched_ok {l : List Tok} {w W : World} {A : Option Addr} {c a Bm Bd : Nat} {sv pv dv : Value} {stk prs ds : List Int} {mo : Int} {s : Brs} (hc : codeOf l = 0) (hb : brsOf l = s) (hp : prs = s.pairs) (hd : ds = deepsOf s)
    (hm : MatC l w A c a Bm Bd sv pv dv stk prs ds mo .nilIface W) : Matched l w (.returned (.tuple #[.pointer (some ⟨a, 0, none⟩), dv])) W := by
  subst hb hp hd
  obtain ⟨n1, n2⟩ := brsOf_len hc
  have h1 := hm.prs
  have h2 := hm.dps
  rw [deepsOf_len, n2] at h2
  rw [n1] at h1
  obtain ⟨P, cp, rfl, e1, hP, _⟩ := holdsI_of_own h1
  obtain ⟨D, cd, rfl, e2, hD, _⟩ := holdsI_of_own h2
  rw [n1] at hm
  rw [deepsOf_len, n2] at hm ⊢
  exact ⟨a, _, _, _, rfl, hm.low, hm.c2, hm.c4, Or.inl ⟨hc, rfl, ⟨P, cp, rfl, hP⟩, D, cd, rfl, hD⟩⟩
theorem matched_err {l : List Tok} {w W : World} {A : Option Addr} {c a Bm Bd : Nat} {sv pv dv : Value} {stk prs ds : List Int} {mo p k : Int} {v : Value} (hc : codeOf l = k) (hk : k ≠ 0) (hv : v.oneCell' = true)
    (hm : MatC l w A c a Bm Bd sv pv dv stk prs ds mo (.iface 59 (.agg #[.int .i64 k, .int .i64 p, v])) W) : Matched l w (.returned (.tuple #[.pointer (some ⟨a, 0, none⟩), dv])) W := by
  subst hc
  exact ⟨a, _, _, _, rfl, hm.low, hm.c2, hm.c4, Or.inr ⟨hk, p, v, rfl, hv⟩⟩

set_option maxRecDepth 100000 in
set_option maxHeartbeats 8000000 in
theorem match_any (A : Option Addr) (c : Nat) (l : List Tok) (bq : Addr) (w : World) (hl : mildT l) (hh : HoldsT w A l)
    (hg : w.cell? ⟨0, 0, none⟩ = some (.iface 109 (.pointer (some bq)))) :
    Calls Tryd.prog 14 #[.slice A l.length c] w (Matched l w) := by
  obtain ⟨i0, hi0, hz0, hz1, hz2⟩ := info_parts infoInt
  have hl1 := hl.1
  refine calls_of_wp_marks 3 Tryd.func14 rfl ?_
  simp only [Tryd.ntmps14, List.size_toArray, List.length_cons, List.length_nil, Nat.reduceAdd, Nat.reduceSub, Array.replicate_succ, Array.replicate_zero, List.push_toArray, List.append_toArray, List.nil_append, List.cons_append]
  go_wp2_with fail
  go_loopw [13] (fun i wr => ∃ (k : Nat) (pv : Value), i = .int .i64 k ∧ k ≤ l.length ∧ wr.heap[w.heap.size]? = some (.cells #[.slice none 0 0, .slice A l.length c, pv, .int .i64 0, .nilIface] 49 (0, 0)) ∧ wr.ownsRow w.heap.size 3 1 pv k (intCells (List.replicate k (-1))) ∧ Below w.heap.size w wr)
    (fun i _ => l.length - (intOf i).toNat)
  case atStart => exact ⟨0, _, rfl, by omega, World.alloc_heap_new w _, World.ownsRow_nil _ _ _ _, (Below.refl _ _).alloc (Nat.le_refl _) _⟩
  case round =>
    obtain ⟨k, pv, rfl, hk, hma, hown, hlow⟩ := hrel
    by_cases hlt : k < l.length
    · have c2 : wr.cell? ⟨w.heap.size, 2, none⟩ = some pv := by simp [World.cell?, hma]
      have z2 : wr.frozen? ⟨w.heap.size, 2, none⟩ = false := frozen_of_row wr _ 2 _ _ hma
      have hsz := hlow.size
      have la := (Array.getElem?_eq_some_iff.1 hma).1
      have geo := ownBlock_ge hown
      have hne := row_ne hown hma (by decide)
      go_wp2_with (at_builtin; go_must (refine wpList_append_own _ rfl _ _ 25 rfl w.heap.size 3 i0 _ 1 8 Tryd.underlying25 hi0 hz0 hz1 hz2 rfl (by decide) pv k _ rfl (hown.alloc _) ⟨wr.heap.size, 0, none⟩ 1 1 [.int .i64 (-1)] rfl rfl (cell_one_new _ _ _) (by simp [Value.oneCell']) (by unfold maxLen; omega) (by omega) (by simp; omega) ?_); go_must (intro v1 w3 hown3 hg3 _); go_must (obtain ⟨A9, c9, rfl⟩ := owns_slice hown3); go_must (have hma3 := (hg3.block w.heap.size (by simp; omega) (Ne.symm hne)).trans (((World.grownBy_alloc wr (.cells #[.int .i64 (-1)] 3) none).block _ la (by simp)).trans hma)); go_must (have c2' : w3.cell? ⟨w.heap.size, 2, none⟩ = some pv := by simp [World.cell?, hma3]); go_must (have z2' : w3.frozen? ⟨w.heap.size, 2, none⟩ = false := frozen_of_row w3 _ 2 _ _ hma3))
      go_roundw
      case rel =>
        refine ⟨k + 1, _, by go_num, by omega, heap_setCell_same w3 _ 2 _ _ _ hma3, ?_, ((hlow.alloc hsz _).grown hg3 (by simp; omega) geo).setCell (p := ⟨w.heap.size, 2, none⟩) (Nat.le_refl _) _⟩
        have e : intCells (List.replicate (k + 1) (-1)) = intCells (List.replicate k (-1)) ++ [.int .i64 (-1)] := by rw [List.replicate_succ']; simp [intCells]
        rw [e]
        exact hown3.kept (grown_setCell w3 ⟨w.heap.size, 2, none⟩ _) (Or.inr (row_ne hown3 hma3 (by decide)))
      case measure => simp [intOf]; omega
    · obtain rfl : k = l.length := by omega
      have la := (Array.getElem?_eq_some_iff.1 hma).1
      go_wp2_with fail
      refine (steps_any _ _).mono ?_
      rintro e w2 ⟨rfl, rfl⟩
      have hM : MatC l w A c w.heap.size (wr.heap.size + 1) wr.heap.size (.slice none 0 0) pv (.slice none 0 0) [] (List.replicate l.length (-1)) [] 0 .nilIface ((wr.alloc (.cells #[.slice none 0 0] 25)).alloc (.cells #[.pointer (some ⟨w.heap.size, 0, none⟩)] 41)) := by
        have b1 := Boxed.new wr 25 (.slice none 0 0)
        have b2 := Boxed.new (wr.alloc (.cells #[.slice none 0 0] 25)) 41 (.pointer (some ⟨w.heap.size, 0, none⟩))
        rw [World.size_alloc] at b2
        have hg1 := World.grownBy_alloc wr (.cells #[.slice none 0 0] 25) none
        have hg2 := World.grownBy_alloc (wr.alloc (.cells #[.slice none 0 0] 25)) (.cells #[.pointer (some ⟨w.heap.size, 0, none⟩)] 41) none
        refine ⟨(hlow.alloc hlow.size _).alloc (by simp; have := hlow.size; omega) _, b2, b1.alloc _, (hg2.block _ (by simp; omega) (by simp)).trans ((hg1.block _ la (by simp)).trans hma), World.ownsRow_nil _ _ _ _, ?_, World.ownsRow_nil _ _ _ _, ?_, ?_, ?_, Nat.le_refl _, hlow.size⟩
        · rw [List.length_replicate]
          exact (hown.alloc _).alloc _
        · intro b hb he; simp [Value.ownBlock] at he
        · intro b hb he; simp [Value.ownBlock] at he
        · intro b hb he; simp [Value.ownBlock] at he
      have lw := hlow.size
      clear hma hown
      go_wp2_with fail
      have lB : (wr.alloc (.cells #[.slice none 0 0] 25)).heap.size = wr.heap.size + 1 := by simp
      obtain ⟨W0, hW0⟩ : ∃ W0, (wr.alloc (.cells #[.slice none 0 0] 25)).alloc (.cells #[.pointer (some ⟨w.heap.size, 0, none⟩)] 41) = W0 := ⟨_, rfl⟩
      rw [hW0] at hM
      try rw [hW0]
      clear hW0
      have HM := Lib.hid hM
      clear hM
      refine wpIn_wide.1 (range_joint (n := 3) (F := Fence.wide) rfl (by omega) (gf := 33) (lb := #[.pointer (some ⟨wr.heap.size + 1, 0, none⟩)]) rfl trivial (enters_of Tryd.func33 (by kernel_rfl) rfl) ?_)
      intro fn r W hfn hr hW hB
      have hMW : MatC l w A c w.heap.size (wr.heap.size + 1) wr.heap.size (.slice none 0 0) pv (.slice none 0 0) [] (List.replicate l.length (-1)) [] 0 .nilIface W := by
        rw [hW]
        exact (HM.out.alloc _).alloc _
      have hLw := HM.out.low.size
      refine callsIn_wide.2 ((steps1_any 2 (by omega) l w W A c w.heap.size (wr.heap.size + 1) wr.heap.size (W0.heap.size + 1) W0.heap.size r pv bq hl hh hg hMW hB ?hY).mono ?_)
      case hY =>
        intro sv pv dv stk prs ds mo ev W5 i d hm5 hb5 hlen
        have h1 : r.state = .ready := by rw [hr]
        have h2 : r.pending = none := by rw [hr]
        have h3 : r.params.size = 2 := by rw [hr]; rfl
        refine (round_joint (F := Fence.wide) (n := 2) (args := #[.int .i64 i, .int .i64 d]) (Post := fun W3 => ∃ dv', MatC l w A c w.heap.size (wr.heap.size + 1) wr.heap.size sv pv dv' stk prs (ds ++ [d]) mo ev W3) trivial hb5 h1 h2 (by rw [h3]; rfl) ?_).mono ?_
        · obtain ⟨rb, hrb⟩ : ∃ rb, ({ r with state := .busy } : Loop) = rb := ⟨_, rfl⟩
          rw [hrb]
          have hm6 := hm5.putObj (.loop rb) hb5.lp rfl (by omega)
          obtain ⟨W6, hW6⟩ : ∃ W6, W5.putObj (W0.heap.size + 1) (.loop rb) = W6 := ⟨_, rfl⟩
          rw [hW6] at hm6
          have hs5 := hm5.low.size
          have HW6 := Lib.hid hW6
          clear hrb hW6 hb5 h1 h2 h3 hB hW hMW
          subst hr
          gi_wp2_with fail
          refine ⟨KeepsOthers.refl _, ?_⟩
          rw [HW6.out]
          clear HW6
          have cd6 := hm6.bd.cell
          have zd6 := hm6.bd.frozen
          have hs6 := hm6.low.size
          have HM6 := Lib.hid hm6
          have hdps := Lib.hid hm6.dps
          have lps := ownBlock_lt hm6.prs
          have lst := ownBlock_lt hm6.stk
          have ned := row_ne hm6.dps hm6.bd (by decide)
          clear hm5 hm6
          gi_wp2_with (gi_at_builtin; go_must (refine wpListIn_append_own_at _ rfl _ _ 25 rfl w.heap.size 3 i0 _ 1 8 Tryd.underlying25 hi0 hz0 hz1 hz2 rfl (by decide) dv ds.length _ rfl (hdps.out.alloc _) ⟨W6.heap.size, 0, none⟩ 1 1 [.int .i64 d] rfl rfl (cell_one_new _ _ _) (by simp [Value.oneCell']) (by unfold maxLen; omega) (by omega) (by simp; omega) ?_); go_must (intro v1 w3 hown3 hg3 _ hat3); go_must (obtain ⟨A9, c9, rfl⟩ := owns_slice hown3); go_must (have hb3 := (((HM6.out.alloc (.cells #[.int .i64 d] 3)).bd).kept hg3 (Ne.symm ned))); go_must (have cd3 := hb3.cell); go_must (have zd3 := hb3.frozen))
          refine ⟨((KeepsOthers.alloc W6 _).trans (others_of_row (hdps.out.alloc _) hg3)).trans (KeepsOthers.setCell _ _ _), _, (HM6.out.alloc _).setDeep _ (ds ++ [d]) hg3 ?_ ?_ ?_⟩
          · rw [intCells_append, List.length_append]
            exact hown3
          · exact far_right HM6.out.f2 hat3 (fun b hb => by have := lps b hb; simp; omega)
          · exact far_right HM6.out.f3 hat3 (fun b hb => by have := lst b hb; simp; omega)
        · rintro e W' ⟨rfl, hB', W3, hB3, rfl, dv', hm'⟩
          exact ⟨rfl, hB', dv', hm'.putObj _ hB3.lp rfl (by omega)⟩
      · rintro e W' ⟨hv, hB', hS⟩
        refine ⟨hv, hB', ?_⟩
        obtain ⟨W7, hW7⟩ : ∃ W7, W'.putObj (W0.heap.size + 1) (.loop { r with state := .exhausted }) = W7 := ⟨_, rfl⟩
        have hD7 : W7.heap[W0.heap.size]? = some (.deferred (some [])) := by
          rw [← hW7]
          exact (World.putObj_heap_other (by omega)).trans hB'.calls
        have hS7 : Stepped l w A c w.heap.size (wr.heap.size + 1) wr.heap.size bq W7 := by
          rw [← hW7]
          rcases hS with ⟨s, sv, pv, dv, h1, h2⟩ | ⟨h1, sv, pv, dv, stk, prs, ds, mo, p, h2⟩
          · exact Or.inl ⟨s, sv, pv, dv, h1, h2.putObj _ hB'.lp rfl (by omega)⟩
          · exact Or.inr ⟨h1, sv, pv, dv, stk, prs, ds, mo, p, h2.putObj _ hB'.lp rfl (by omega)⟩
        rw [hW7]
        clear hW7 hB' hS hB hW hMW hr hv
        rcases hS7 with ⟨s, sv, pv, dv, hrun, hm⟩ | ⟨hrun, sv, pv, dv, stk, prs, ds, mo, p, hm⟩
        · obtain ⟨hc, hbr⟩ := code_end hrun
          have Hbr := Lib.hid hbr
          have Hrun := Lib.hid hrun
          clear hbr hrun
          have c0 := hm.c0
          have c3 := hm.c3
          have c4 := hm.c4
          have z4 := hm.fz 4
          have cd := hm.bd.cell
          have HM7 := Lib.hid hm
          obtain ⟨S0, c5, rfl⟩ := owns_slice hm.stk
          rw [stackOf_len] at c0
          clear hm
          by_cases hs : s.stack = []
          · rw [if_pos hs] at hc
            have hs0 : s.stack.length = 0 := by rw [hs]; rfl
            rw [hs0] at c0
            by_cases h20 : 20 < s.most
            · rw [if_pos h20] at hc
              have Hc := Lib.hid hc
              have q : (20 : Int) < (s.most : Int) := by omega
              clear hc hs h20
              have HM8 := Lib.hid (HM7.out.setErr (.iface 59 (.agg #[.int .i64 61, .int .i64 0, .nilIface])))
              have hD8 := (KeepsOthers.setCell W7 ⟨w.heap.size, 4, none⟩ (.iface 59 (.agg #[.int .i64 61, .int .i64 0, .nilIface]))).same _ _ hD7 rfl
              have cd8 := HM8.out.bd.cell
              go_wp2_with fail
              go_quiet (fail)
              go_wp2_with fail
              have hD9 := (others_drewN _ nq).same _ _ hD8 rfl
              refine ⟨by simp, .inl ⟨_, _, rfl, run_takeDeferred hD9, ?_⟩⟩
              refine ⟨_, results_tmp2 rfl _ _ _, ?_⟩
              exact matched_err Hc.out (by omega) rfl ((HM8.out.drewN nq).putObj _ hD9 rfl (by omega))
            · rw [if_neg h20] at hc
              have Hc := Lib.hid hc
              have q : ¬ (20 : Int) < (s.most : Int) := by omega
              clear hc hs h20
              go_wp2_with fail
              go_quiet (fail)
              go_wp2_with fail
              have hD9 := (others_drewN _ nq).same _ _ hD7 rfl
              refine ⟨by simp, .inl ⟨_, _, rfl, run_takeDeferred hD9, ?_⟩⟩
              refine ⟨_, results_tmp2 rfl _ _ _, ?_⟩
              exact matched_ok Hc.out Hbr.out rfl rfl ((HM7.out.drewN nq).putObj _ hD9 rfl (by omega))
          · rw [if_neg hs] at hc
            have Hc := Lib.hid hc
            have hs1 : 0 < s.stack.length := List.length_pos_iff.2 hs
            have q : (0 : Int) < (s.stack.length : Int) := by omega
            have hst := HM7.out.stk
            rw [stackOf_len] at hst
            obtain ⟨g, cap, hsl, g1, g2, g3⟩ := own_form hst hs1
            cases hsl
            have hcell : ∃ y, (stackOf s)[0]? = some y := ⟨_, List.getElem?_eq_getElem (by rw [stackOf_len]; exact hs1)⟩
            obtain ⟨y, hy⟩ := hcell
            have cy : W7.cell? ⟨g, 0, none⟩ = some (.int .i64 y) := (hst.cellAt 0 (by omega)).trans (intCells_get hy)
            have cg : W7.cell? ⟨0, 0, none⟩ = some (.iface 109 (.pointer (some bq))) := (HM7.out.low.cell (p := ⟨0, 0, none⟩) (cell_lt hg)).trans hg
            have HM8 := Lib.hid (HM7.out.setErr (wrongV y bq))
            have hD8 := (KeepsOthers.setCell W7 ⟨w.heap.size, 4, none⟩ (wrongV y bq)).same _ _ hD7 rfl
            unfold wrongV at HM8 hD8
            have cd8 := HM8.out.bd.cell
            clear hc hs hst hy
            go_wp2_with fail
            go_region
            go_wp2_with fail
            go_quiet (fail)
            go_wp2_with fail
            have hD9 := ((KeepsOthers.drew _).trans (others_drewN _ nq)).same _ _ hD8 rfl
            refine ⟨by simp, .inl ⟨_, _, rfl, run_takeDeferred hD9, ?_⟩⟩
            refine ⟨_, results_tmp2 rfl _ _ _, ?_⟩
            exact matched_err Hc.out (by omega) rfl (((HM8.out.drew).drewN nq).putObj _ hD9 rfl (by omega))
        · have Hc : Hid (codeOf l = 60) := Lib.hid (by unfold codeOf; rw [hrun])
          clear hrun
          have c4 := hm.c4
          have cd := hm.bd.cell
          unfold wrongV at hm c4
          have HM7 := Lib.hid hm
          clear hm
          go_wp2_with fail
          go_quiet (fail)
          go_wp2_with fail
          have hD9 := (others_drewN _ nq).same _ _ hD7 rfl
          refine ⟨by simp, .inl ⟨_, _, rfl, run_takeDeferred hD9, ?_⟩⟩
          refine ⟨_, results_tmp2 rfl _ _ _, ?_⟩
          exact matched_err Hc.out (by omega) rfl ((HM7.out.drewN nq).putObj _ hD9 rfl (by omega))
end Go.Proofs.YtlokkdbgihbnhabDoor
