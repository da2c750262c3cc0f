/-
  What looks like a function; the last group, the last function: by the program.
-/
import Derived.Test.YtebejlnegalokaaGreatDoorProg
import Derived.Test.YtebejlnegalokaaGreatDoorReg
import Derived.WalkKit
import Derived.WalkSpells
import Derived.WalkLawsBesides
import Derived.Lib.Hide
import Derived.Lib.MinMax
import Derived.Deep.QuietTactic
import Derived.BigQuiet
import Derived.OwnWalk
import Derived.Deep.AppendLies
import Derived.KernelRfl
import Derived.Test.YtebejlnegalokaaGreatDoorPw3
import Derived.Test.YtebejlnegalokaaGreatDoorMapI
import Derived.ArgAppend
import Derived.Laws.OwnMore
import Derived.Deep.OwnRows
import Derived.Maps.AppendAt
set_option linter.unusedSimpArgs false
set_option linter.unusedVariables false
namespace Go.Proofs.YtebejlnegalokaaGreatDoor
open Go Go.RowKit Go.Maps
open Gz (Tok HoldsT mildT matchOf codeOf insideRes splitRes HoldsI gPar gCur)
open Nz (Nd rightN joinN HoldsN IntN HoldsTs errNodeAt)

/-! ### Plainly -/
theorem isGrp_len {l : List Tok} {g : ByteArray} (h : isGrp l g = true) : 2 ≤ l.length := by
  unfold isGrp at h
  simp only [Bool.and_eq_true, decide_eq_true_eq] at h
  exact h.1
theorem innerL_len (l : List Tok) : (innerL l).length = l.length - 2 := by unfold innerL; rw [List.length_take, List.length_drop]; omega
theorem isFnF_more (env : List Bd) : ∀ (n k : Nat) (l : List Tok), l.length < n → l.length < k → isFnF env k l = isFn env l
  | 0, k, l, h, _ => by omega
  | n + 1, 0, l, _, h => by omega
  | n + 1, k + 1, l, h1, h2 => by
    unfold isFn isFnF
    cases hg : isGrp (l.take (cutN l)) gPar with
    | false => simp only [Bool.false_and]
    | true =>
      have h3 := isGrp_len hg
      have h4 : (l.take (cutN l)).length ≤ l.length := by rw [List.length_take]; omega
      have h5 := innerL_len (l.take (cutN l))
      rw [isFnF_more env n k _ (by omega) (by omega), isFnF_more env n l.length _ (by omega) (by omega)]
theorem isFn_eq (env : List Bd) (l : List Tok) : isFn env l = if (l.take (cutN l)).length = 1 then one1 env (l.take (cutN l)) else isGrp (l.take (cutN l)) gCur || (isGrp (l.take (cutN l)) gPar && isFn env (innerL (l.take (cutN l)))) := by
  conv => lhs; unfold isFn isFnF
  cases hg : isGrp (l.take (cutN l)) gPar with
  | false => simp only [Bool.false_and]
  | true =>
    have h3 := isGrp_len hg
    have h4 : (l.take (cutN l)).length ≤ l.length := by rw [List.length_take]; omega
    have h5 := innerL_len (l.take (cutN l))
    rw [isFnF_more env (l.length + 1) l.length _ (by omega) (by omega)]
theorem OkL.inner {l : List Tok} (h : OkL l) : OkL (innerL l) := (h.drop 1).take _

/-! ### The parser -/
structure Par (w : World) (pb : Nat) (A : Option Addr) (c : Nat) (env : List Bd) (inner : Bool) : Prop where
  c0 : w.cell? ⟨pb, 0, none⟩ = some (.slice A env.length c)
  c1 : w.cell? ⟨pb, 1, none⟩ = some (.bool inner)
  holds : HoldsE w A env
  cap : env.length ≤ c
  few : env.length ≤ 100000
theorem Par.below {w w' : World} {pb : Nat} {A : Option Addr} {c : Nat} {env : List Bd} {inner : Bool} (h : Par w pb A c env inner) (hb : Below w.heap.size w w') : Par w' pb A c env inner :=
  ⟨(hb.cell (p := ⟨pb, 0, none⟩) (cell_lt h.c0)).trans h.c0, (hb.cell (p := ⟨pb, 1, none⟩) (cell_lt h.c1)).trans h.c1, h.holds.below hb, h.cap, h.few⟩

set_option maxRecDepth 100000 in
set_option maxHeartbeats 4000000 in
theorem isFn_any (pb : Nat) (A : Option Addr) (c : Nat) (env : List Bd) (inner : Bool) : ∀ (n : Nat) (l : List Tok) (TA : Option Addr) (d : Nat) (w : World), l.length < n → OkL l → l.length ≤ d → HoldsT w TA l → Par w pb A c env inner → Gz.Listed w →
    Calls Tryz.prog 55 #[.pointer (some ⟨pb, 0, none⟩), .slice TA l.length d] w fun e w' => e = .returned (.bool (isFn env l)) ∧ Below w.heap.size w w'
  | 0, l, _, _, _, h, _, _, _, _, _ => by omega
  | n + 1, l, TA, d, w, hn, hl, hd, hh, hp, hg => by
    have ih := Lib.hid (isFn_any pb A c env inner n)
    obtain ⟨R, hR⟩ : ∃ R, R = isFn env l := ⟨_, rfl⟩
    rw [← hR]
    rw [isFn_eq] at hR
    have hc1 := cutN_le l
    have HC := Lib.hid (cut_any TA d l w hl hd hh)
    have hlb : (l.take (cutN l)).length = cutN l := by rw [List.length_take]; omega
    have hbl : ∀ W, HoldsT W TA l → HoldsT W TA (l.take (cutN l)) := fun W h => HoldsT.to h _
    have hob := hl.take (cutN l)
    have HX := Lib.hid (fun x (h : l[0]? = some x) (h1 : 1 ≤ cutN l) => show (l.take (cutN l))[0]? = some x by rw [List.getElem?_take, if_pos (by omega)]; exact h)
    generalize cutN l = m at *
    generalize hbd : l.take m = bl at *
    rw [hlb] at hR
    have HH := Lib.hid hh
    have HP := Lib.hid hp
    have HG := Lib.hid hg
    have HR := Lib.hid hR
    have HBl := Lib.hid hbl
    have HOb := Lib.hid hob
    have hlen := hl.len
    clear hh hp hg hR hbl hob hbd hl
    go_enter Tryz.func55, Tryz.ntmps55
    go_wp2_with fail
    refine HC.out.mono ?_
    rintro e w1 ⟨hb, B, d2, rfl, hd2, -⟩
    have HH1 := Lib.hid (HH.out.below hb)
    have HP1 := Lib.hid (HP.out.below hb)
    have HG1 := Lib.hid (HG.out.below hb)
    have HB1 := Lib.hid hb
    clear hb HC hd2
    by_cases hm : m = 1
    · subst hm
      rw [if_pos rfl] at HR
      have gx := List.getElem?_eq_getElem (l := l) (i := 0) (by omega)
      have gy := HX.out _ gx (Nat.le_refl _)
      obtain ⟨b, off, rfl, c0, c1, c2⟩ := HH1.out 0 _ gx
      simp only [Nat.zero_mul, Nat.add_zero] at c0 c1 c2
      unfold one1 at HR
      rw [gy] at HR
      simp only [Option.any_some] at HR
      clear gx gy
      generalize l[0] = x at *
      have k0 : (0 : Int) < ((1 : Nat) : Int) := by omega
      by_cases h5 : x.kind = 5
      · rw [if_pos h5] at HR
        obtain rfl : R = fnOf env x.text := HR.out
        rw [h5] at c0
        obtain ⟨p0, p1, p2, p3, p4⟩ := HP1.out
        have HCl := Lib.hid (fun W (h : HoldsE W A env) => class_any A c env x.text W (by omega) h)
        go_wp2_with fail
        refine wp_region_four (S := fun w' => w'.cell? ⟨pb, 0, none⟩ = some (.slice A env.length c) ∧ w'.cell? ⟨b, off + 1, none⟩ = some (.string x.text)) [0, 1, 2, 3, 4, 5, 6, 7] [8, 9] [10, 11] [12, 13] (by kernel_rfl) (by kernel_rfl) (fun _ _ _ _ _ h => h) ⟨p0, c1⟩ ?_
        simp only [pick, List.filterMap_cons, List.filterMap_nil, List.getElem?_toArray, List.getElem?_cons_zero, List.getElem?_cons_succ]
        repeat (refine wpHead_step (v := ?_) rfl ?_ ?_; rotate_left; (focus (rintro w1 ⟨s0, s1⟩; go_simp; try with_reducible rfl)); simp only [Act.put, List.setIfInBounds_toArray, List.set_cons_zero, List.set_cons_succ])
        refine wpHead_nil ?_
        refine wpTailK_step rfl (fun K hK => ?_)
        go_wp2_with fail
        refine (HCl.out w1.drew p2).mono ?_
        rintro e w2 ⟨rfl, hb⟩
        have t0 : w2.cell? ⟨pb, 0, none⟩ = some (.slice A env.length c) := (hb.cell (p := ⟨pb, 0, none⟩) (cell_lt p0)).trans p0
        have t1 : w2.cell? ⟨b, off + 1, none⟩ = some (.string x.text) := (hb.cell (p := ⟨b, off + 1, none⟩) (cell_lt c1)).trans c1
        have HB2 := Lib.hid (HB1.out.drew.trans (hb.mono HB1.out.drew.size))
        refine hK _ _ ⟨t0, t1⟩ ?_
        clear hK K
        try simp only [Act.put, List.setIfInBounds_toArray, List.set_cons_zero, List.set_cons_succ]
        refine wpTailK_step rfl (fun K hK => ?_)
        go_wp2_with fail
        refine hK _ _ ⟨t0, t1⟩ ?_
        clear hK K
        try simp only [Act.put, List.setIfInBounds_toArray, List.set_cons_zero, List.set_cons_succ]
        refine wpTailK_nil ?_
        repeat (refine wpHead_step (v := ?_) rfl ?_ ?_; rotate_left; (focus (rintro w1 ⟨u0, u1⟩; go_simp; try with_reducible rfl)); simp only [Act.put, List.setIfInBounds_toArray, List.set_cons_zero, List.set_cons_succ])
        refine wpHead_nil ?_
        refine wpTail_step rfl (fun K hK => ?_)
        go_wp2_with fail
        refine hK _ _ ⟨t0, t1⟩ ?_
        clear hK K
        try simp only [Act.put, List.setIfInBounds_toArray, List.set_cons_zero, List.set_cons_succ]
        refine wpTail_step rfl (fun K hK => ?_)
        go_wp2_with fail
        refine hK _ _ ⟨t0, t1⟩ ?_
        clear hK K
        try simp only [Act.put, List.setIfInBounds_toArray, List.set_cons_zero, List.set_cons_succ]
        refine wpTail_nil ?_
        go_wp2_with fail
        go_ret
        exact ⟨rfl, HB2.out⟩
      · rw [if_neg h5] at HR
        have q5 : (x.kind == 5) = false := by simp [h5]
        by_cases h6 : x.kind = 6
        · obtain rfl : R = true := by rw [HR.out]; simp [h6]
          rw [h6] at c0
          go_wp2_with fail
          go_ret
          exact ⟨rfl, HB1.out⟩
        · obtain rfl : R = false := by rw [HR.out]; simp [h6]
          have q6 : (x.kind == 6) = false := by simp [h6]
          go_wp2_with fail
          go_ret
          exact ⟨rfl, HB1.out⟩
    · rw [if_neg hm] at HR
      have hmm : ((m : Int) == 1) = false := by simp; omega
      have HI := Lib.hid (fun g W (h : HoldsT W TA bl) (hw : Gz.Listed W) => isGroup_any TA bl.length bl g W HOb.out (Nat.le_refl _) h hw)
      rw [hlb] at HI
      go_wp2_with fail
      refine (HI.out _ w1 (HBl.out _ HH1.out) HG1.out).mono ?_
      rintro e w2 ⟨rfl, hb⟩
      have HH2 := Lib.hid (HH1.out.below hb)
      have HP2 := Lib.hid (HP1.out.below hb)
      have HG2 := Lib.hid (HG1.out.below hb)
      have HB2 := Lib.hid (HB1.out.trans (hb.mono HB1.out.size))
      clear hb
      cases hs : isGrp bl ⟨#[123]⟩ with
      | true =>
        obtain rfl : R = true := by
          have := HR.out
          rw [show isGrp bl gCur = true from hs] at this
          exact this
        go_wp2_with fail
        go_ret
        exact ⟨rfl, HB2.out⟩
      | false =>
        have e1 := HR.out
        rw [show isGrp bl gCur = false from hs, Bool.false_or] at e1
        have HR1 := Lib.hid e1
        clear e1 hs
        go_wp2_with fail
        refine (HI.out _ w2 (HBl.out _ HH2.out) HG2.out).mono ?_
        rintro e w3 ⟨rfl, hb⟩
        have HH3 := Lib.hid (HH2.out.below hb)
        have HP3 := Lib.hid (HP2.out.below hb)
        have HG3 := Lib.hid (HG2.out.below hb)
        have HB3 := Lib.hid (HB2.out.trans (hb.mono HB2.out.size))
        clear hb
        cases hs : isGrp bl ⟨#[40]⟩ with
        | false =>
          obtain rfl : R = false := by
            have := HR1.out
            rw [show isGrp bl gPar = false from hs] at this
            exact this
          go_wp2_with fail
          go_ret
          exact ⟨rfl, HB3.out⟩
        | true =>
          have h2 := isGrp_len hs
          have e1 := HR1.out
          rw [show isGrp bl gPar = true from hs, Bool.true_and] at e1
          have HR2 := Lib.hid e1
          have hil := innerL_len bl
          have HIn := Lib.hid (inside_any TA bl.length bl w3 HOb.out h2 (Nat.le_refl _) (HBl.out _ HH3.out))
          have HOi := Lib.hid HOb.out.inner
          have hi1 : (innerL bl).length < n := by rw [hil, hlb]; omega
          rw [hlb] at HIn
          clear e1 hs hil HR1 h2
          generalize innerL bl = il at *
          go_wp2_with fail
          refine HIn.out.mono ?_
          rintro e w4 ⟨rfl, B2, rfl, hI⟩
          have HIi := Lib.hid hI
          clear hI HIn
          go_wp2_with fail
          refine (ih.out il B2 _ w4 hi1 HOi.out (Nat.le_refl _) HIi.out HP3.out HG3.out).mono ?_
          rintro e w5 ⟨rfl, hb⟩
          rw [← HR2.out]
          have HB4 := Lib.hid (HB3.out.trans (hb.mono HB3.out.size))
          clear hb
          cases R with
          | false =>
            go_wp2_with fail
            go_ret
            exact ⟨rfl, HB4.out⟩
          | true =>
            go_wp2_with fail
            go_ret
            exact ⟨rfl, HB4.out⟩

/-! ### The last group -/
theorem brsOf_pairs {l : List Tok} (h : codeOf l = 0) : matchOf l = (Gz.brsOf l).pairs := if_pos h
theorem lastAt_lt {l : List Tok} (h : 1 ≤ l.length) : lastAt l < l.length := by
  unfold lastAt
  split
  · rename_i h1
    obtain ⟨h2, h3⟩ := h1
    rw [brsOf_pairs h2] at h3 ⊢
    obtain ⟨j, hj, hjl, _⟩ := Gz.partners_law h2 (i := l.length - 1) (by omega) (fun e => by unfold Gz.Brs.pr at e; omega)
    unfold Gz.Brs.pr at hj
    omega
  · omega
theorem HoldsT.fromS {w : World} {b off : Nat} {l : List Tok} (h : HoldsT w (some ⟨b, off, none⟩) l) (a : Nat) : HoldsT w (some ⟨b, off + a * 3, none⟩) (l.drop a) := by
  intro k x hx
  rw [List.getElem?_drop] at hx
  obtain ⟨b', off', e, c1, c2, c3⟩ := h (a + k) x hx
  cases e
  have e : off + a * 3 + k * 3 = off + (a + k) * 3 := by omega
  exact ⟨b, off + a * 3, rfl, by rw [e]; exact c1, by rw [e]; exact c2, by rw [e]; exact c3⟩

set_option maxHeartbeats 4000000 in
theorem last_p (b off : Nat) (c : Nat) (l : List Tok) (w : World) (hl : OkL l) (h1 : 1 ≤ l.length) (hc : l.length ≤ c) (hh : HoldsT w (some ⟨b, off, none⟩) l) (hg : Gz.Listed w) :
    Calls Tryz.prog 108 #[.slice (some ⟨b, off, none⟩) l.length c] w fun e w' => e = .returned (.slice (some ⟨b, off + lastAt l * 3, none⟩) (l.length - lastAt l) (c - lastAt l)) ∧ Below w.heap.size w w' := by
  have HM := Lib.hid (Gz.gmatch_any (some ⟨b, off, none⟩) c l w hl.mild hh hg)
  have hlt := lastAt_lt h1
  obtain ⟨R, hR⟩ : ∃ R, R = lastAt l := ⟨_, rfl⟩
  have hlen := hl.len
  rw [← hR] at hlt ⊢
  unfold lastAt at hR
  have HR := Lib.hid hR
  obtain ⟨n, hn⟩ : ∃ n, n = l.length - 1 := ⟨_, rfl⟩
  have hn2 : (l.length : Int) - 1 = (n : Int) := by omega
  have k0 : (0 : Int) ≤ (n : Int) := by omega
  have hpl : codeOf l = 0 → (matchOf l).length = l.length := fun h => by rw [brsOf_pairs h]; exact (Gz.brsOf_len h).1
  have HPl := Lib.hid hpl
  rw [← hn] at HR
  generalize matchOf l = M at *
  generalize codeOf l = C at *
  have hnl : n < l.length := by omega
  have HN := Lib.hid hn
  clear hh hg hl hR hpl hn
  go_enter Tryz.func108, Tryz.ntmps108
  go_wp2_with fail
  refine HM.out.mono ?_
  rintro e w1 ⟨B, d, rfl, hI, hb⟩
  have HB1 := Lib.hid hb
  clear hb HM
  by_cases hC : C = 0
  · subst hC
    have hml := HPl.out rfl
    have g := List.getElem?_eq_getElem (l := M) (i := n) (by omega)
    obtain ⟨b3, o3, rfl, m0⟩ := hI n _ g
    have hgd : M.getD n (-1) = M[n]'(by omega) := by rw [List.getD_eq_getElem?_getD, g]; rfl
    have HR1 := Lib.hid HR.out
    rw [hgd] at HR1
    have k1 : (n : Int) < (M.length : Int) := by omega
    clear hI g HR hgd HPl
    generalize (M[n]'(by omega)) = v at *
    by_cases hv : 0 ≤ v
    · have e1 := HR1.out
      rw [if_pos ⟨rfl, hv⟩] at e1
      obtain rfl : v = (R : Int) := by omega
      have j1 : (0 : Int) ≤ (R : Int) := by omega
      have j2 : (R : Int) ≤ (l.length : Int) := by omega
      have j3 : ¬ c = R := by omega
      clear HR1 e1
      go_wp2_with fail
      go_ret
      exact ⟨by simp, HB1.out⟩
    · have e1 := HR1.out
      rw [if_neg (fun h => hv h.2)] at e1
      subst e1
      have j2 : (R : Int) ≤ (l.length : Int) := by omega
      have j3 : ¬ c = R := by omega
      have j4 : decide (v ≥ 0) = false := decide_eq_false hv
      clear HR1
      go_wp2_with fail
      go_ret
      exact ⟨by simp, HB1.out⟩
  · have e1 := HR.out
    rw [if_neg (fun h => hC h.1)] at e1
    subst e1
    have qC : (C == 0) = false := by simp [hC]
    have j2 : (R : Int) ≤ (l.length : Int) := by omega
    have j3 : ¬ c = R := by omega
    clear HR HPl hI
    go_wp2_with fail
    go_ret
    exact ⟨by simp, HB1.out⟩
end Go.Proofs.YtebejlnegalokaaGreatDoor
/-
  Where the function, the value at the end begins: by the program.
-/
namespace Go.Proofs.YtebejlnegalokaaGreatDoor
open Go Go.RowKit Go.Maps
open Gz (Tok HoldsT mildT matchOf codeOf insideRes splitRes HoldsI gPar gCur)
open Nz (Nd rightN joinN HoldsN IntN HoldsTs errNodeAt)

/-- A part of the tokens, to the end; none. -/
def GivesO (o : Option Nat) (l : List Tok) (b off c : Nat) (e : Ending) (w w' : World) : Prop := Below w.heap.size w w' ∧ (match o with
  | none => e = .returned (.slice none 0 0)
  | some a => e = .returned (.slice (some ⟨b, off + a * 3, none⟩) (l.length - a) (c - a)))

set_option maxHeartbeats 4000000 in
theorem lastFun_p (pb : Nat) (A : Option Addr) (c' : Nat) (env : List Bd) (inner : Bool) (b off c : Nat) (l : List Tok) (w : World) (hl : OkL l) (h1 : 1 ≤ l.length) (hc : l.length ≤ c) (hh : HoldsT w (some ⟨b, off, none⟩) l) (hp : Par w pb A c' env inner) (hg : Gz.Listed w) :
    Calls Tryz.prog 79 #[.pointer (some ⟨pb, 0, none⟩), .slice (some ⟨b, off, none⟩) l.length c] w (GivesO (funAt env l) l b off c · w ·) := by
  have hc1 := cutN_le l
  have hc0 := cutN_pos h1
  have hlen := hl.len
  have hlb : (l.take (cutN l)).length = cutN l := by rw [List.length_take]; omega
  have hlt := lastAt_lt (l := l.take (cutN l)) (by omega)
  have HL := Lib.hid (fun W (h : HoldsT W (some ⟨b, off, none⟩) l) (hw : Gz.Listed W) => last_p b off (cutN l) (l.take (cutN l)) W (hl.take _) (by omega) (by omega) (HoldsT.to h _) hw)
  have HC := Lib.hid (cut_any (some ⟨b, off, none⟩) c l w hl hc hh)
  obtain ⟨R, hR⟩ : ∃ R, R = funAt env l := ⟨_, rfl⟩
  rw [← hR]
  unfold funAt at hR
  simp only at hR
  rw [hlb] at hlt HL
  generalize hm : cutN l = m at *
  generalize ha : lastAt (l.take m) = a at *
  have hda : (l.drop a).length = l.length - a := by rw [List.length_drop]
  have HF := Lib.hid (fun W (h : HoldsT W (some ⟨b, off, none⟩) l) (hq : Par W pb A c' env inner) (hw : Gz.Listed W) => isFn_any pb A c' env inner (l.length + 1) (l.drop a) (some ⟨b, off + a * 3, none⟩) (c - a) W (by rw [List.length_drop]; omega) (hl.drop a) (by omega) (HoldsT.fromS h a) hq hw)
  rw [hda] at HF
  generalize isFn env (l.drop a) = F at *
  have HR := Lib.hid hR
  have HH := Lib.hid hh
  have HP := Lib.hid hp
  have HG := Lib.hid hg
  obtain ⟨r, hr⟩ : ∃ r, r = m - a := ⟨_, rfl⟩
  obtain ⟨s, hs⟩ : ∃ s, s = l.length - m := ⟨_, rfl⟩
  have e1 : (m : Int) - (r : Int) = (a : Int) := by omega
  have e2 : (m : Int) + (s : Int) = (l.length : Int) := by omega
  rw [← hr] at HL
  rw [← hs] at HC
  have k0 : (0 : Int) ≤ (a : Int) := by omega
  have k1 : (a : Int) ≤ (l.length : Int) := by omega
  have k2 : (l.length : Int) ≤ (c : Int) := by omega
  have k3 : ¬ c = a := by omega
  clear hh hp hg hR hl hm ha hr hs hda hlb
  go_enter Tryz.func79, Tryz.ntmps79
  go_wp2_with fail
  refine HC.out.mono ?_
  rintro e w1 ⟨hb, B, d2, rfl, hd2, -⟩
  have HH1 := Lib.hid (HH.out.below hb)
  have HP1 := Lib.hid (HP.out.below hb)
  have HG1 := Lib.hid (HG.out.below hb)
  have HB1 := Lib.hid hb
  clear hb hd2
  go_wp2_with fail
  refine (HL.out _ HH1.out HG1.out).mono ?_
  rintro e w2 ⟨rfl, hb⟩
  have HH2 := Lib.hid (HH1.out.below hb)
  have HP2 := Lib.hid (HP1.out.below hb)
  have HG2 := Lib.hid (HG1.out.below hb)
  have HB2 := Lib.hid (HB1.out.trans (hb.mono HB1.out.size))
  clear hb
  go_wp2_with fail
  refine (HF.out _ HH2.out HP2.out HG2.out).mono ?_
  rintro e w3 ⟨rfl, hb⟩
  have HB3 := Lib.hid (HB2.out.trans (hb.mono HB2.out.size))
  clear hb
  cases F with
  | false =>
    obtain rfl : R = none := HR.out
    go_wp2_with fail
    go_ret
    exact ⟨HB3.out, rfl⟩
  | true =>
    obtain rfl : R = some a := HR.out
    go_wp2_with fail
    go_ret
    exact ⟨HB3.out, by simp⟩

/-! ### The five kinds of values -/
theorem numsGo_le (l : List Tok) : ∀ n, numsGo l n ≤ n
  | 0 => Nat.le_refl _
  | n + 1 => by
    unfold numsGo
    split
    · exact Nat.le_trans (numsGo_le l n) (by omega)
    · exact Nat.le_refl _
theorem numsGo_lt {l : List Tok} {n : Nat} {x : Tok} (hx : l[n]? = some x) (hk : x.kind = 3) : numsGo l (n + 1) ≤ n := by
  unfold numsGo
  rw [hx]
  simp [hk]
  exact numsGo_le l n
theorem numsGo_num {l : List Tok} {n : Nat} {x : Tok} (hx : l[n]? = some x) (hk : x.kind = 3) : numsGo l (n + 1) = numsGo l n := by
  conv => lhs; unfold numsGo
  rw [hx]
  simp [hk]
theorem numsGo_stop {l : List Tok} {n : Nat} {x : Tok} (hx : l[n]? = some x) (hk : x.kind ≠ 3) : numsGo l (n + 1) = n + 1 := by
  unfold numsGo
  rw [hx]
  simp [hk]
set_option maxHeartbeats 2000000 in
theorem numbers_p (v : Value) (b off c : Nat) (l : List Tok) (w : World) (hl : OkL l) (hn : numsGo l l.length < l.length) (hc : l.length ≤ c) (hh : HoldsT w (some ⟨b, off, none⟩) l) :
    Calls Tryz.prog 72 #[v, .slice (some ⟨b, off, none⟩) l.length c] w (GivesO (some (numsGo l l.length)) l b off c · w ·) := by
  obtain ⟨R, hR⟩ : ∃ R, R = numsGo l l.length := ⟨_, rfl⟩
  rw [← hR] at hn ⊢
  have HR := Lib.hid hR
  have HH := Lib.hid hh
  have hlen := hl.len
  clear hh hR hl
  go_enter Tryz.func72, Tryz.ntmps72
  go_wp2_with fail
  go_loopw [5] (fun s wr => ∃ (j : Nat), s = .int .i64 j ∧ j ≤ l.length ∧ Hid (R = numsGo l j) ∧ wr = w) (fun s _ => (intOf s).toNat)
  case atStart => exact ⟨l.length, rfl, Nat.le_refl _, HR, by first | trivial | rfl⟩
  case round =>
    obtain ⟨j, rfl, hj, HJ, rfl⟩ := hrel
    cases j with
    | zero =>
      obtain rfl : R = 0 := HJ.out
      have k3 : ¬ c = 0 := by omega
      go_wp2_with fail
      go_ret
      exact ⟨Below.refl _ _, by simp⟩
    | succ m =>
      have g := List.getElem?_eq_getElem (l := l) (i := m) (by omega)
      obtain ⟨b', off', e, c0, c1, c2⟩ := HH.out m _ g
      cases e
      have e1 : ((m + 1 : Nat) : Int) - 1 = (m : Int) := by omega
      have k0 : (0 : Int) ≤ (m : Int) := by omega
      have k1 : (m : Int) < (l.length : Int) := by omega
      have k2 : (0 : Int) < ((m + 1 : Nat) : Int) := by omega
      by_cases h3 : (l[m]'(by omega)).kind = 3
      · have HJ2 := Lib.hid (HJ.out.trans (numsGo_num g h3))
        rw [h3] at c0
        clear h3 g c1 c2 HJ
        go_wp2_with fail
        go_roundw
        case rel => exact ⟨m, rfl, by omega, HJ2, by first | trivial | rfl⟩
        case measure => simp [intOf]; first | done | omega
      · have HJ2 := HJ.out.trans (numsGo_stop g h3)
        generalize (l[m]'(by omega)) = x at *
        have q3 : (x.kind == 3) = false := by simp [h3]
        clear g c1 c2 HJ
        subst HJ2
        have k3 : ¬ c = m + 1 := by omega
        have k4 : (0 : Int) ≤ ((m + 1 : Nat) : Int) := by omega
        have k5 : ((m + 1 : Nat) : Int) ≤ (l.length : Int) := by omega
        go_wp2_with fail
        go_ret
        exact ⟨Below.refl _ _, by simp⟩
set_option maxHeartbeats 1000000 in
theorem one_p (v : Value) (b off c : Nat) (l : List Tok) (w : World) (hl : OkL l) (h1 : 1 ≤ l.length) (hc : l.length ≤ c) :
    Calls Tryz.prog 73 #[v, .slice (some ⟨b, off, none⟩) l.length c] w (GivesO (some (l.length - 1)) l b off c · w ·) := by
  have hlen := hl.len
  obtain ⟨n, hn⟩ : ∃ n, n = l.length - 1 := ⟨_, rfl⟩
  have e1 : (l.length : Int) - 1 = (n : Int) := by omega
  have k0 : (0 : Int) ≤ (n : Int) := by omega
  have k1 : (n : Int) ≤ (l.length : Int) := by omega
  have k3 : ¬ c = n := by omega
  rw [← hn]
  clear hn hl
  go_enter Tryz.func73, Tryz.ntmps73
  go_wp2_with fail
  go_ret
  exact ⟨Below.refl _ _, by simp⟩
set_option maxHeartbeats 1000000 in
theorem arg_p (pb : Nat) (A : Option Addr) (c' : Nat) (env : List Bd) (inner : Bool) (b off c : Nat) (l : List Tok) (w : World) (hl : OkL l) (h1 : 1 ≤ l.length) (hc : l.length ≤ c) (hp : Par w pb A c' env inner) :
    Calls Tryz.prog 74 #[.pointer (some ⟨pb, 0, none⟩), .slice (some ⟨b, off, none⟩) l.length c] w (GivesO (if inner then some (l.length - 1) else none) l b off c · w ·) := by
  have H := Lib.hid (fun W => one_p (.pointer (some ⟨pb, 0, none⟩)) b off c l W hl h1 hc)
  obtain ⟨p0, p1, p2, p3, p4⟩ := hp
  clear hl
  cases inner with
  | false =>
    go_enter Tryz.func74, Tryz.ntmps74
    go_wp2_with fail
    go_ret
    exact ⟨Below.refl _ _, rfl⟩
  | true =>
    go_enter Tryz.func74, Tryz.ntmps74
    go_wp2_with fail
    refine (H.out _).mono ?_
    rintro e w2 ⟨hb, rfl⟩
    go_wp2_with fail
    go_ret
    exact ⟨hb, rfl⟩
set_option maxRecDepth 100000 in
set_option maxHeartbeats 2000000 in
theorem name_p (pb : Nat) (A : Option Addr) (c' : Nat) (env : List Bd) (inner : Bool) (b off c : Nat) (l : List Tok) (x : Tok) (w : World) (hl : OkL l) (h1 : 1 ≤ l.length) (hx : l[l.length - 1]? = some x) (hc : l.length ≤ c) (hh : HoldsT w (some ⟨b, off, none⟩) l) (hp : Par w pb A c' env inner) :
    Calls Tryz.prog 75 #[.pointer (some ⟨pb, 0, none⟩), .slice (some ⟨b, off, none⟩) l.length c] w (GivesO (if fnOf env x.text then none else some (l.length - 1)) l b off c · w ·) := by
  have H := Lib.hid (fun W => one_p (.pointer (some ⟨pb, 0, none⟩)) b off c l W hl h1 hc)
  obtain ⟨p0, p1, p2, p3, p4⟩ := hp
  obtain ⟨b', off', e, c0, c1, c2⟩ := hh _ x hx
  cases e
  have hlen := hl.len
  have HCl := Lib.hid (fun W (h : HoldsE W A env) => class_any A c' env x.text W (by omega) h)
  obtain ⟨n, hn⟩ : ∃ n, n = l.length - 1 := ⟨_, rfl⟩
  have e1 : (l.length : Int) - 1 = (n : Int) := by omega
  have e2 : IntKind.i64.wrap (n : Int) = (n : Int) := IntWalk.i64_in _ (by omega)
  have k0 : (0 : Int) ≤ (n : Int) := by omega
  have k1 : (n : Int) < (l.length : Int) := by omega
  have k2 : n < l.length := by omega
  rw [← hn] at c1 H ⊢
  clear hn hl hx c0 c2 hh
  obtain ⟨F, hF⟩ : ∃ F, F = fnOf env x.text := ⟨_, rfl⟩
  rw [← hF] at HCl ⊢
  clear hF
  go_enter Tryz.func75, Tryz.ntmps75
  go_wp2_with fail
  refine wp_region_four (S := fun w' => w'.cell? ⟨pb, 0, none⟩ = some (.slice A env.length c') ∧ w'.cell? ⟨b, off + n * 3 + 1, none⟩ = some (.string x.text)) [0, 1, 2, 3, 4, 5, 6, 7, 8, 9, 10] [11, 12] [13, 14] [15, 16] (by kernel_rfl) (by kernel_rfl) (fun _ _ _ _ _ h => h) ⟨p0, c1⟩ ?_
  simp only [pick, List.filterMap_cons, List.filterMap_nil, List.getElem?_toArray, List.getElem?_cons_zero, List.getElem?_cons_succ]
  repeat (refine wpHead_step (v := ?_) rfl ?_ ?_; rotate_left; (focus (rintro w1 ⟨s0, s1⟩; go_simp; try with_reducible rfl)); simp only [Act.put, List.setIfInBounds_toArray, List.set_cons_zero, List.set_cons_succ])
  refine wpHead_nil ?_
  refine wpTailK_step rfl (fun K hK => ?_)
  go_wp2_with fail
  refine (HCl.out w.drew p2).mono ?_
  rintro e w2 ⟨rfl, hb⟩
  have t0 : w2.cell? ⟨pb, 0, none⟩ = some (.slice A env.length c') := (hb.cell (p := ⟨pb, 0, none⟩) (cell_lt p0)).trans p0
  have t1 : w2.cell? ⟨b, off + n * 3 + 1, none⟩ = some (.string x.text) := (hb.cell (p := ⟨b, off + n * 3 + 1, none⟩) (cell_lt c1)).trans c1
  have HB2 := Lib.hid ((Below.refl w.heap.size w).drew.trans hb)
  clear hb
  refine hK _ _ ⟨t0, t1⟩ ?_
  clear hK K
  try simp only [Act.put, List.setIfInBounds_toArray, List.set_cons_zero, List.set_cons_succ]
  refine wpTailK_step rfl (fun K hK => ?_)
  go_wp2_with fail
  refine hK _ _ ⟨t0, t1⟩ ?_
  clear hK K
  try simp only [Act.put, List.setIfInBounds_toArray, List.set_cons_zero, List.set_cons_succ]
  refine wpTailK_nil ?_
  repeat (refine wpHead_step (v := ?_) rfl ?_ ?_; rotate_left; (focus (rintro w1 ⟨u0, u1⟩; go_simp; try with_reducible rfl)); simp only [Act.put, List.setIfInBounds_toArray, List.set_cons_zero, List.set_cons_succ])
  refine wpHead_nil ?_
  refine wpTail_step rfl (fun K hK => ?_)
  go_wp2_with fail
  refine hK _ _ ⟨t0, t1⟩ ?_
  clear hK K
  try simp only [Act.put, List.setIfInBounds_toArray, List.set_cons_zero, List.set_cons_succ]
  refine wpTail_step rfl (fun K hK => ?_)
  go_wp2_with fail
  refine hK _ _ ⟨t0, t1⟩ ?_
  clear hK K
  try simp only [Act.put, List.setIfInBounds_toArray, List.set_cons_zero, List.set_cons_succ]
  refine wpTail_nil ?_
  cases F with
  | true =>
    go_wp2_with fail
    go_ret
    exact ⟨HB2.out, rfl⟩
  | false =>
    go_wp2_with fail
    refine (H.out _).mono ?_
    rintro e w3 ⟨hb, rfl⟩
    have HB3 := Lib.hid (HB2.out.trans (hb.mono HB2.out.size))
    go_wp2_with fail
    go_ret
    exact ⟨HB3.out, rfl⟩
set_option maxHeartbeats 2000000 in
theorem paren_p (pb : Nat) (A : Option Addr) (c' : Nat) (env : List Bd) (inner : Bool) (b off c : Nat) (l : List Tok) (w : World) (hl : OkL l) (h1 : 1 ≤ l.length) (hc : l.length ≤ c) (hh : HoldsT w (some ⟨b, off, none⟩) l) (hp : Par w pb A c' env inner) (hg : Gz.Listed w) :
    Calls Tryz.prog 76 #[.pointer (some ⟨pb, 0, none⟩), .slice (some ⟨b, off, none⟩) l.length c] w (GivesO (if isGrp (l.drop (lastAt l)) gPar && !isFn env (l.drop (lastAt l)) then some (lastAt l) else none) l b off c · w ·) := by
  have HL := Lib.hid (last_p b off c l w hl h1 hc hh hg)
  have hlt := lastAt_lt h1
  have hlen := hl.len
  generalize lastAt l = a at *
  have hda : (l.drop a).length = l.length - a := by rw [List.length_drop]
  have HF := Lib.hid (fun W (h : HoldsT W (some ⟨b, off, none⟩) l) (hq : Par W pb A c' env inner) (hw : Gz.Listed W) => isFn_any pb A c' env inner (l.length + 1) (l.drop a) (some ⟨b, off + a * 3, none⟩) (c - a) W (by rw [List.length_drop]; omega) (hl.drop a) (by omega) (HoldsT.fromS h a) hq hw)
  have HI := Lib.hid (fun W (h : HoldsT W (some ⟨b, off, none⟩) l) (hw : Gz.Listed W) => isGroup_any (some ⟨b, off + a * 3, none⟩) (c - a) (l.drop a) gPar W (hl.drop a) (by omega) (HoldsT.fromS h a) hw)
  rw [hda] at HF HI
  generalize isFn env (l.drop a) = F at *
  generalize isGrp (l.drop a) gPar = G at *
  unfold gPar at HI
  have HH := Lib.hid hh
  have HP := Lib.hid hp
  have HG := Lib.hid hg
  clear hh hp hg hl hda
  go_enter Tryz.func76, Tryz.ntmps76
  go_wp2_with fail
  refine HL.out.mono ?_
  rintro e w1 ⟨rfl, hb⟩
  have HH1 := Lib.hid (HH.out.below hb)
  have HP1 := Lib.hid (HP.out.below hb)
  have HG1 := Lib.hid (HG.out.below hb)
  have HB1 := Lib.hid hb
  clear hb
  go_wp2_with fail
  refine (HI.out _ HH1.out HG1.out).mono ?_
  rintro e w2 ⟨rfl, hb⟩
  have HH2 := Lib.hid (HH1.out.below hb)
  have HP2 := Lib.hid (HP1.out.below hb)
  have HG2 := Lib.hid (HG1.out.below hb)
  have HB2 := Lib.hid (HB1.out.trans (hb.mono HB1.out.size))
  clear hb
  cases G with
  | false =>
    go_wp2_with fail
    go_ret
    exact ⟨HB2.out, rfl⟩
  | true =>
    go_wp2_with fail
    refine (HF.out _ HH2.out HP2.out HG2.out).mono ?_
    rintro e w3 ⟨rfl, hb⟩
    have HB3 := Lib.hid (HB2.out.trans (hb.mono HB2.out.size))
    clear hb
    cases F with
    | true =>
      go_wp2_with fail
      go_ret
      exact ⟨HB3.out, rfl⟩
    | false =>
      go_wp2_with fail
      go_ret
      exact ⟨HB3.out, rfl⟩

def fnV (f : FuncId) (pb : Nat) : Value := .func (.func f) #[.pointer (some ⟨pb, 0, none⟩)] #[]
set_option maxRecDepth 100000 in
set_option maxHeartbeats 4000000 in
theorem lastValue_p (pb : Nat) (A : Option Addr) (c' : Nat) (env : List Bd) (inner : Bool) (b off c : Nat) (l : List Tok) (w : World) (hl : OkL l) (h1 : 1 ≤ l.length) (hc : l.length ≤ c) (hh : HoldsT w (some ⟨b, off, none⟩) l) (hp : Par w pb A c' env inner) (hg : Gz.Listed w) :
    Calls Tryz.prog 52 #[.pointer (some ⟨pb, 0, none⟩), .slice (some ⟨b, off, none⟩) l.length c] w (GivesO (valAt env inner l) l b off c · w ·) := by
  have hlen := hl.len
  have k5 : ((l.length : Int) == 0) = false := beq_eq_false_iff_ne.mpr (by omega)
  have hmm := @run_makeMap Tryz.prog
  have hk := Tryz.underlying3
  have ht := Tryz.underlying111
  have hb0 : Below w.heap.size w (w.alloc (.map #[] 0)) := below_new w _
  have st : ∀ {p q : World}, Below w.heap.size w p → p.grownBy q (some w.heap.size) → Below w.heap.size w q := fun hp hg => hp.grown hg hp.size (fun k hk => by cases hk; omega)
  have hm0 := MapIsI.made w Tryz.prog 3
  obtain ⟨w1, r1, m1, g1⟩ := hm0.put hk ht (by unfold maxLen; omega) 3 (by decide) (fnV 72 pb)
  have hb1 := st hb0 g1
  clear hb0 g1 hm0
  obtain ⟨w2, r2, m2, g2⟩ := m1.put hk ht (by unfold maxLen; omega) 4 (by decide) (fnV 73 pb)
  have hb2 := st hb1 g2
  clear hb1 g2 m1
  obtain ⟨w3, r3, m3, g3⟩ := m2.put hk ht (by unfold maxLen; omega) 9 (by decide) (fnV 74 pb)
  have hb3 := st hb2 g3
  clear hb2 g3 m2
  obtain ⟨w4, r4, m4, g4⟩ := m3.put hk ht (by unfold maxLen; omega) 5 (by decide) (fnV 75 pb)
  have hb4 := st hb3 g4
  clear hb3 g4 m3
  obtain ⟨w5, r5, m5, g5⟩ := m4.put hk ht (by unfold maxLen; omega) 8 (by decide) (fnV 76 pb)
  have hb5 := st hb4 g5
  clear hb4 g5 m4
  have HB5 := Lib.hid hb5
  have HH5 := Lib.hid (hh.below hb5)
  have HP5 := Lib.hid (hp.below hb5)
  have HG5 := Lib.hid (hg.below hb5)
  obtain ⟨n, hn⟩ : ∃ n, n = l.length - 1 := ⟨_, rfl⟩
  have e1 : (l.length : Int) - 1 = (n : Int) := by omega
  have k0 : (0 : Int) ≤ (n : Int) := by omega
  have k1 : (n : Int) < (l.length : Int) := by omega
  have hnl : n < l.length := by omega
  have gx := List.getElem?_eq_getElem hnl
  obtain ⟨b', off', e, c0, c1, c2⟩ := HH5.out n _ gx
  cases e
  have hkx := hl.kinds _ (List.getElem_mem hnl)
  obtain ⟨V, hV⟩ : ∃ V, V = valAt env inner l := ⟨_, rfl⟩
  rw [← hV]
  unfold valAt at hV
  rw [← hn, gx] at hV
  simp only at hV
  have HV := Lib.hid hV
  have HN := Lib.hid hn
  have H3 := Lib.hid (fun W (h : HoldsT W (some ⟨b, off, none⟩) l) (hn : numsGo l l.length < l.length) => numbers_p (.pointer (some ⟨pb, 0, none⟩)) b off c l W hl hn hc h)
  have H4 := Lib.hid (fun W => one_p (.pointer (some ⟨pb, 0, none⟩)) b off c l W hl h1 hc)
  have H9 := Lib.hid (fun W (h : Par W pb A c' env inner) => arg_p pb A c' env inner b off c l W hl h1 hc h)
  have H5 := Lib.hid (fun W (h : HoldsT W (some ⟨b, off, none⟩) l) (q : Par W pb A c' env inner) => name_p pb A c' env inner b off c l _ W hl h1 (by rw [← hn]; exact gx) hc h q)
  have H8 := Lib.hid (fun W (h : HoldsT W (some ⟨b, off, none⟩) l) (q : Par W pb A c' env inner) (g : Gz.Listed W) => paren_p pb A c' env inner b off c l W hl h1 hc h q g)
  have H30 := Lib.hid (fun (h : (l[n]).kind = 3) => show numsGo l l.length < l.length by
    have := numsGo_lt gx h
    rw [show n + 1 = l.length by omega] at this
    omega)
  rw [← hn] at H4 H9 H5
  clear hn hV
  have Hg := Lib.hid gx
  clear hb5 c1 c2 st gx
  generalize l[n] = x at *
  have hget := m5.get true hk ht (z := .nilFunc) (by kernel_rfl) x.kind (Nz.wf_small (by omega) (by omega))
  simp only at hget
  clear hk ht m5
  unfold fnV at *
  clear hh hp hg hl
  go_enter Tryz.func52, Tryz.ntmps52
  by_cases h3 : x.kind = 3
  · have HC := Lib.hid (H3.out _ HH5.out (H30.out h3))
    have e9 := HV.out
    rw [if_pos h3] at e9
    rw [h3] at hget c0
    simp only [reduceIte, Option.getD_some, Option.isSome_some, show ((3 : Int) = 8) = False from by simp, show ((3 : Int) = 5) = False from by simp, show ((3 : Int) = 9) = False from by simp, show ((3 : Int) = 4) = False from by simp] at hget
    rw [← e9] at HC
    clear e9 HV H3 H4 H5 H8 H9 H30
    go_wp2_with fail
    refine HC.out.mono ?_
    rintro e w6 ⟨hb, he⟩
    have HB6 := Lib.hid (HB5.out.trans (hb.mono HB5.out.size))
    clear hb
    cases V with
    | none =>
      obtain rfl := he
      go_wp2_with fail
      go_ret
      exact ⟨HB6.out, rfl⟩
    | some a =>
      obtain rfl := he
      go_wp2_with fail
      go_ret
      exact ⟨HB6.out, rfl⟩
  · skip
    by_cases h4 : x.kind = 4
    · have HC := Lib.hid (H4.out w5)
      have e9 := HV.out
      rw [if_neg h3, if_pos h4] at e9
      rw [h4] at hget c0
      simp only [reduceIte, Option.getD_some, Option.isSome_some, show ((4 : Int) = 8) = False from by simp, show ((4 : Int) = 5) = False from by simp, show ((4 : Int) = 9) = False from by simp, show ((4 : Int) = 4) = True from by simp] at hget
      rw [← e9] at HC
      clear e9 HV H3 H4 H5 H8 H9 H30
      go_wp2_with fail
      refine HC.out.mono ?_
      rintro e w6 ⟨hb, he⟩
      have HB6 := Lib.hid (HB5.out.trans (hb.mono HB5.out.size))
      clear hb
      cases V with
      | none =>
        obtain rfl := he
        go_wp2_with fail
        go_ret
        exact ⟨HB6.out, rfl⟩
      | some a =>
        obtain rfl := he
        go_wp2_with fail
        go_ret
        exact ⟨HB6.out, rfl⟩
    · skip
      by_cases h9 : x.kind = 9
      · have HC := Lib.hid (H9.out _ HP5.out)
        have e9 := HV.out
        rw [if_neg h3, if_neg h4, if_pos h9] at e9
        rw [h9] at hget c0
        simp only [reduceIte, Option.getD_some, Option.isSome_some, show ((9 : Int) = 8) = False from by simp, show ((9 : Int) = 5) = False from by simp, show ((9 : Int) = 9) = True from by simp, show ((9 : Int) = 4) = False from by simp] at hget
        rw [← e9] at HC
        clear e9 HV H3 H4 H5 H8 H9 H30
        go_wp2_with fail
        refine HC.out.mono ?_
        rintro e w6 ⟨hb, he⟩
        have HB6 := Lib.hid (HB5.out.trans (hb.mono HB5.out.size))
        clear hb
        cases V with
        | none =>
          obtain rfl := he
          go_wp2_with fail
          go_ret
          exact ⟨HB6.out, rfl⟩
        | some a =>
          obtain rfl := he
          go_wp2_with fail
          go_ret
          exact ⟨HB6.out, rfl⟩
      · skip
        by_cases h5 : x.kind = 5
        · have HC := Lib.hid (H5.out _ HH5.out HP5.out)
          have e9 := HV.out
          rw [if_neg h3, if_neg h4, if_neg h9, if_pos h5] at e9
          rw [h5] at hget c0
          simp only [reduceIte, Option.getD_some, Option.isSome_some, show ((5 : Int) = 8) = False from by simp, show ((5 : Int) = 5) = True from by simp, show ((5 : Int) = 9) = False from by simp, show ((5 : Int) = 4) = False from by simp] at hget
          rw [← e9] at HC
          clear e9 HV H3 H4 H5 H8 H9 H30
          go_wp2_with fail
          refine HC.out.mono ?_
          rintro e w6 ⟨hb, he⟩
          have HB6 := Lib.hid (HB5.out.trans (hb.mono HB5.out.size))
          clear hb
          cases V with
          | none =>
            obtain rfl := he
            go_wp2_with fail
            go_ret
            exact ⟨HB6.out, rfl⟩
          | some a =>
            obtain rfl := he
            go_wp2_with fail
            go_ret
            exact ⟨HB6.out, rfl⟩
        · skip
          by_cases h8 : x.kind = 8
          · have HC := Lib.hid (H8.out _ HH5.out HP5.out HG5.out)
            have e9 := HV.out
            rw [if_neg h3, if_neg h4, if_neg h9, if_neg h5, if_pos h8] at e9
            rw [h8] at hget c0
            simp only [reduceIte, Option.getD_some, Option.isSome_some, show ((8 : Int) = 8) = True from by simp, show ((8 : Int) = 5) = False from by simp, show ((8 : Int) = 9) = False from by simp, show ((8 : Int) = 4) = False from by simp] at hget
            rw [← e9] at HC
            clear e9 HV H3 H4 H5 H8 H9 H30
            go_wp2_with fail
            refine HC.out.mono ?_
            rintro e w6 ⟨hb, he⟩
            have HB6 := Lib.hid (HB5.out.trans (hb.mono HB5.out.size))
            clear hb
            cases V with
            | none =>
              obtain rfl := he
              go_wp2_with fail
              go_ret
              exact ⟨HB6.out, rfl⟩
            | some a =>
              obtain rfl := he
              go_wp2_with fail
              go_ret
              exact ⟨HB6.out, rfl⟩
          · skip
            have e9 := HV.out
            rw [if_neg h3, if_neg h4, if_neg h9, if_neg h5, if_neg h8] at e9
            simp only [if_neg h8, if_neg h5, if_neg h9, if_neg h4, if_neg h3, Option.getD_none, Option.isSome_none, if_true] at hget
            subst e9
            clear HV H3 H4 H5 H8 H9 H30
            go_wp2_with fail
            go_ret
            exact ⟨HB5.out, rfl⟩
theorem lastValue_nil (pb : Nat) (A : Option Addr) (c : Nat) (w : World) :
    Calls Tryz.prog 52 #[.pointer (some ⟨pb, 0, none⟩), .slice A 0 c] w fun e w' => e = .returned (.slice none 0 0) ∧ w' = w := by
  go_enter Tryz.func52, Tryz.ntmps52
  go_wp2_with fail
  go_ret
  exact ⟨rfl, rfl⟩
end Go.Proofs.YtebejlnegalokaaGreatDoor
/-
  Rows of one's own: texts, trees, names; what is appended to them.
-/
namespace Go.Proofs.YtebejlnegalokaaGreatDoor
open Go Go.RowKit Go.Maps
open Gz (Tok HoldsT)
open Nz (Nd rightN joinN HoldsN IntN HoldsTs errNodeAt)

abbrev sK : TypeId := 9
theorem infoStr : (Tryz.prog.info? 9).map (fun i => (i.zero, i.size, i.bytes)) = some (some (.string ByteArray.empty), 1, 16) := by kernel_rfl
theorem infoNds : (Tryz.prog.info? 23).map (fun i => (i.zero, i.size, i.bytes)) = some (some (.slice none 0 0), 1, 24) := by kernel_rfl
theorem infoBd : (Tryz.prog.info? 30).map (fun i => (i.zero, i.size, i.bytes)) = some (some (.agg #[.string ByteArray.empty, .bool false]), 2, 24) := by kernel_rfl
def strCells (l : List ByteArray) : List Value := l.map Value.string
theorem strCells_length (l : List ByteArray) : (strCells l).length = l.length := by simp [strCells]
theorem strCells_append (l m : List ByteArray) : strCells (l ++ m) = strCells l ++ strCells m := by simp [strCells]
theorem add_lit (g j : Nat) : (⟨g, 0, none⟩ : Addr).add j = ⟨g, 0 + j, none⟩ := by
  unfold Addr.add
  split
  · rename_i h; subst h; rfl
  · rfl
/-- The form of a row of one's own. -/
theorem own_form {w : World} {base : Nat} {e : TypeId} {k : Nat} {v : Value} {n : Nat} {xs : List Value} (h : w.ownsRow base e k v n xs) :
    ∃ A c, v = .slice A n c ∧ n ≤ c ∧ (0 < n → ∃ g, A = some ⟨g, 0, none⟩ ∧ base ≤ g ∧ g < w.heap.size ∧ ∀ j u, xs[j]? = some u → w.cell? ⟨g, 0 + j, none⟩ = some u) := by
  rcases h.2 with ⟨rfl, h0⟩ | ⟨g, cap, cur, rfl, hb, hrow, hcap, _⟩
  · exact ⟨none, 0, by rw [h0], by omega, fun h => by omega⟩
  · refine ⟨some ⟨g, 0, none⟩, cap, rfl, hcap, fun _ => ⟨g, rfl, hb, (Array.getElem?_eq_some_iff.1 hrow).1, fun j u hu => ?_⟩⟩
    have hc := h.cells (g := g) rfl _ _ hu
    rw [add_lit] at hc
    exact hc
/-- A text is appended. -/
theorem push_str {W : World} {base : Nat} {v : Value} {l : List ByteArray} {x : ByteArray} {g : Nat} (hg : W.heap[g]? = some (.cells #[.string x] sK (0, 0))) (hown : W.ownsRow base sK 1 v l.length (strCells l)) (hl : l.length ≤ 1000000) (hbase : base ≤ W.heap.size) :
    ∃ A c w', (Builtin.append_ #[112, 112] 112 #[v, .slice (some ⟨g, 0, none⟩) 1 1]).run Tryz.prog W = .ok (.slice A (l.length + 1) c) w' ∧ w'.ownsRow base sK 1 (.slice A (l.length + 1) c) (l ++ [x]).length (strCells (l ++ [x])) ∧ W.grownBy w' v.ownBlock := by
  obtain ⟨i0, hi0, hz0, hz1, hz2⟩ := info_parts infoStr
  obtain ⟨v', w', hr, ho, hgr, _, _⟩ := run_append_own_at (P := Tryz.prog) W base 112 112 sK i0 _ 1 16 Tryz.underlying112 hi0 hz0 hz1 hz2 rfl (by decide) v l.length (strCells l) hown ⟨g, 0, none⟩ 1 1 [.string x] (by simp)
    (World.news_of_block (cs := #[.string x]) (t := sK) (fr := (0, 0)) hg) (by simp [Value.oneCell']) (by unfold maxLen; omega) (by omega) hbase
  have e : strCells (l ++ [x]) = strCells l ++ [.string x] := strCells_append l [x]
  obtain ⟨A, c, rfl, _, _⟩ := own_form ho
  exact ⟨A, c, w', hr, by rw [e, List.length_append, List.length_singleton]; exact ho, hgr⟩
/-- A tree's slice is appended. -/
theorem push_kid {W : World} {base : Nat} {v : Value} {n : Nat} {xs : List Value} {B : Option Addr} {m d : Nat} {g : Nat} (hg : W.heap[g]? = some (.cells #[.slice B m d] 23 (0, 0))) (hown : W.ownsRow base 23 1 v n xs) (hl : n ≤ 1000000) (hbase : base ≤ W.heap.size) :
    ∃ A c w', (Builtin.append_ #[115, 115] 115 #[v, .slice (some ⟨g, 0, none⟩) 1 1]).run Tryz.prog W = .ok (.slice A (n + 1) c) w' ∧ w'.ownsRow base 23 1 (.slice A (n + 1) c) (n + 1) (xs ++ [.slice B m d]) ∧ W.grownBy w' v.ownBlock := by
  obtain ⟨i0, hi0, hz0, hz1, hz2⟩ := info_parts infoNds
  obtain ⟨v', w', hr, ho, hgr, _, _⟩ := run_append_own_at (P := Tryz.prog) W base 115 115 23 i0 _ 1 24 Tryz.underlying115 hi0 hz0 hz1 hz2 rfl (by decide) v n xs hown ⟨g, 0, none⟩ 1 1 [.slice B m d] (by simp)
    (World.news_of_block (cs := #[.slice B m d]) (t := 23) (fr := (0, 0)) hg) (by simp [Value.oneCell']) (by unfold maxLen; omega) (by omega) hbase
  obtain ⟨A, c, rfl, _, _⟩ := own_form ho
  exact ⟨A, c, w', hr, ho, hgr⟩

/-! ### Texts with a blank between two -/
theorem joinG_is : ∀ (l : List ByteArray), (joinG l).data.toList = Lib.join (l.map (·.data.toList)) [32]
  | [] => rfl
  | [x] => by simp [joinG, Lib.join, List.intercalate]
  | x :: y :: l => by
    have ih := joinG_is (y :: l)
    have e : joinG (x :: y :: l) = x ++ ⟨#[32]⟩ ++ joinG (y :: l) := rfl
    rw [e]
    simp only [ByteArray.data_append, Array.toList_append, ih]
    simp [Lib.join, List.intercalate, List.intersperse]
theorem joinG_size : ∀ (l : List ByteArray) (n : Nat), (∀ x ∈ l, x.size ≤ n) → (joinG l).size ≤ l.length * (n + 1)
  | [], n, _ => Nat.zero_le _
  | [x], n, h => by
    have := h x (by simp)
    simp [joinG]
    omega
  | x :: y :: l, n, h => by
    have ih := joinG_size (y :: l) n (fun z hz => h z (List.mem_cons_of_mem _ hz))
    have hx := h x (by simp)
    have e : joinG (x :: y :: l) = x ++ ⟨#[32]⟩ ++ joinG (y :: l) := rfl
    have e3 : (⟨#[32]⟩ : ByteArray).size = 1 := rfl
    rw [e, ByteArray.size_append, ByteArray.size_append, e3]
    have e2 : (x :: y :: l).length * (n + 1) = (y :: l).length * (n + 1) + (n + 1) := by
      rw [List.length_cons (a := x), Nat.succ_mul]
    omega
end Go.Proofs.YtebejlnegalokaaGreatDoor
