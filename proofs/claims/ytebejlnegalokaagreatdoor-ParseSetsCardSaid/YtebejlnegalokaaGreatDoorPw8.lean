/-
  Whole lists of tokens: by the program.
-/
import Derived.Test.YtebejlnegalokaaGreatDoorProg
import Derived.Test.YtebejlnegalokaaGreatDoorReg
import Derived.WalkKit
import Derived.WalkSpells
import Derived.WalkLawsBesides
import Derived.Lib.Hide
import Derived.Lib.MinMax
import Derived.Deep.QuietTactic
import Derived.BigQuiet
import Derived.OwnWalk
import Derived.Deep.AppendLies
import Derived.KernelRfl
import Derived.Test.YtebejlnegalokaaGreatDoorPw7
import Derived.Test.YtebejlnegalokaaGreatDoorLzM4
set_option linter.unusedSimpArgs false
set_option linter.unusedVariables false
namespace Go.Proofs.YtebejlnegalokaaGreatDoor
open Go Go.RowKit Go.Maps
open Gz (Tok HoldsT HoldsTT splitRes mildT codeOf matchOf gPar gCur)
open Nz (Nd rightN joinN HoldsN IntN HoldsTs errNodeAt)

/-! ### All steps -/
theorem pz_ok (a b : Addr) : ∀ (k n : Nat), (2 * n + 1 ≤ k → KOk a b n 32 (pz k).expr) ∧ (2 * n + 1 ≤ k → KOk a b n 33 (pz k).fn) ∧ (2 * n + 2 ≤ k → KOk a b n 41 (pz k).stmt)
  | 0, n => ⟨fun h => by omega, fun h => by omega, fun h => by omega⟩
  | k + 1, n => by
    have ih := pz_ok a b k
    refine ⟨fun h => ?_, fun h => ?_, fun h => ?_⟩
    · intro pb A c' env inner l TA d w h1 h2 hl hd hh hp hw
      exact expr_p a b (pz k) pb A c' env inner TA d l w (fun h9 => (ih (l.length - 1)).1 (by omega)) (fun h9 => (ih (l.length - 1)).2.1 (by omega)) hl h2 hd hh hp hw
    · intro pb A c' env inner l TA d w h1 h2 hl hd hh hp hw
      exact fun_p a b (pz k) pb A c' env inner TA d l w (fun h9 => (ih (l.length - 2)).2.2 (by omega)) (fun h9 => (ih (l.length - 2)).2.1 (by omega)) hl h2 hd hh hp hw
    · intro pb A c' env inner l TA d w h1 h2 hl hd hh hp hw
      exact stmt_p a b (pz k) pb A c' env inner TA d l w ((ih l.length).1 (by omega)) ((ih l.length).2.1 (by omega)) hl h2 hd hh hp hw

/-! ### Tokens of this chapter -/
theorem isTok_kinds {x : Tok} (h : isTok x = true) : 3 ≤ x.kind ∧ x.kind ≤ 9 := by
  unfold isTok at h
  split at h
  · rename_i h1
    omega
  · split at h
    · rename_i h1
      omega
    · simp at h
      omega
theorem neq_empty (s : ByteArray) : (!s.toList.isEmpty) = decide (s ≠ noB) := by
  have e : noB.toList = [] := by decide +kernel
  by_cases h : s = noB
  · subst h
    rw [e]
    simp
  · have h1 := bytes_beq s noB
    rw [decide_eq_false h, e] at h1
    rw [decide_eq_true h]
    cases hs : s.toList with
    | nil => rw [hs] at h1; simp at h1
    | cons y l => rfl
set_option maxHeartbeats 4000000 in
theorem isToken_any (x : Tok) (w : World) :
    Calls Tryz.prog 69 #[x.val] w fun e w' => e = .returned (.bool (isTok x)) ∧ Below w.heap.size w w' := by
  obtain ⟨R, hR⟩ : ∃ R, R = isTok x := ⟨_, rfl⟩
  rw [← hR]
  unfold isTok at hR
  unfold Gz.Tok.val
  generalize x.kind = k at *
  generalize x.text = t at *
  generalize x.glyph = g at *
  have HBx := Lib.hid (below_new w (.cells #[.int .i64 k, .string t, .string g] 37))
  by_cases h3 : k = 3
  · subst h3
    rw [if_pos (by simp)] at hR
    have HQ := Lib.hid ((neq_empty g).trans hR.symm)
    clear hR
    go_enter Tryz.func69, Tryz.ntmps69
    go_wp2_with fail
    go_ret
    exact ⟨by rw [HQ.out]; rfl, HBx.out⟩
  by_cases h6 : k = 6
  · subst h6
    rw [if_pos (by simp)] at hR
    have HQ := Lib.hid ((neq_empty g).trans hR.symm)
    clear hR
    go_enter Tryz.func69, Tryz.ntmps69
    go_wp2_with fail
    go_ret
    exact ⟨by rw [HQ.out]; rfl, HBx.out⟩
  by_cases h7 : k = 7
  · subst h7
    rw [if_pos (by simp)] at hR
    have HQ := Lib.hid ((neq_empty g).trans hR.symm)
    clear hR
    go_enter Tryz.func69, Tryz.ntmps69
    go_wp2_with fail
    go_ret
    exact ⟨by rw [HQ.out]; rfl, HBx.out⟩
  by_cases h9 : k = 9
  · subst h9
    rw [if_pos (by simp)] at hR
    have HQ := Lib.hid ((neq_empty g).trans hR.symm)
    clear hR
    go_enter Tryz.func69, Tryz.ntmps69
    go_wp2_with fail
    go_ret
    exact ⟨by rw [HQ.out]; rfl, HBx.out⟩
  by_cases h4 : k = 4
  · subst h4
    rw [if_neg (by simp), if_pos (by simp)] at hR
    have HQ := Lib.hid ((neq_empty t).trans hR.symm)
    clear hR
    go_enter Tryz.func69, Tryz.ntmps69
    go_wp2_with fail
    go_ret
    exact ⟨by rw [HQ.out]; rfl, HBx.out⟩
  by_cases h5 : k = 5
  · subst h5
    rw [if_neg (by simp), if_pos (by simp)] at hR
    have HQ := Lib.hid ((neq_empty t).trans hR.symm)
    clear hR
    go_enter Tryz.func69, Tryz.ntmps69
    go_wp2_with fail
    go_ret
    exact ⟨by rw [HQ.out]; rfl, HBx.out⟩
  rw [if_neg (by omega), if_neg (by omega)] at hR
  have q3 : (k == 3) = false := by simp [h3]
  have q6 : (k == 6) = false := by simp [h6]
  have q7 : (k == 7) = false := by simp [h7]
  have q9 : (k == 9) = false := by simp [h9]
  have q4 : (k == 4) = false := by simp [h4]
  have q5 : (k == 5) = false := by simp [h5]
  have HQ := Lib.hid (show (k == 8) = R by rw [hR]; rfl)
  clear hR
  go_enter Tryz.func69, Tryz.ntmps69
  go_wp2_with fail
  go_ret
  exact ⟨by rw [HQ.out]; rfl, HBx.out⟩

/-! ### Lists -/
theorem any_bad {l : List Tok} {i : Nat} {x : Tok} (hx : l[i]? = some x) (h : isTok x = false) : l.all isTok = false := by
  rw [← Bool.not_eq_true, List.all_eq_true]
  intro h2
  rw [h2 x (List.mem_of_getElem? hx)] at h
  cases h
theorem checkOf_bad {l : List Tok} (h : l.all isTok = false) : checkOf l = 81 := by unfold checkOf; rw [h]; rfl
set_option maxRecDepth 100000 in
set_option maxHeartbeats 4000000 in
theorem checked_any (TA : Option Addr) (c : Nat) (l : List Tok) (w : World) (hl : mildT l) (hh : HoldsT w TA l) (hg : Gz.Listed w) :
    Calls Tryz.prog 50 #[.slice TA l.length c] w fun e w' => e = .returned (if checkOf l = 0 then .nilIface else .iface 105 (.agg #[.int .i64 (checkOf l), .nilIface])) ∧ Below w.heap.size w w' := by
  have HM := Lib.hid (fun W (h : HoldsT W TA l) (v : Gz.Listed W) => Gz.gmatch_any TA c l W hl h v)
  obtain ⟨R, hR⟩ : ∃ R, R = checkOf l := ⟨_, rfl⟩
  rw [← hR]
  have HR := Lib.hid hR
  have HH := Lib.hid hh
  have HG := Lib.hid hg
  have hlen := hl.1
  clear hh hg hl hR
  go_enter Tryz.func50, Tryz.ntmps50
  go_wp2_with fail
  go_loopw [9] (fun iv wr => ∃ (i : Nat), iv = .int .i64 i ∧ i ≤ l.length ∧ Hid (∀ j x, j < i → l[j]? = some x → isTok x = true) ∧ Hid (Below w.heap.size w wr)) (fun iv _ => l.length - (intOf iv).toNat)
  case atStart => exact ⟨0, rfl, Nat.zero_le _, Lib.hid (fun j x h => by omega), Lib.hid (Below.refl _ _)⟩
  case round =>
    obtain ⟨i, rfl, hi, HJ, HB⟩ := hrel
    have hsz := HB.out.size
    by_cases hlt : i < l.length
    · have i1 : (i : Int) < (l.length : Int) := by omega
      have i0 : (0 : Int) ≤ (i : Int) := by omega
      have gi := List.getElem?_eq_getElem hlt
      obtain ⟨b0, off, rfl, c0, c1, c2⟩ := (HH.out.below HB.out) i _ gi
      have HGi := Lib.hid gi
      clear gi
      generalize l[i] = x at *
      have HT := Lib.hid (fun u => isToken_any x u)
      unfold Gz.Tok.val at HT
      have HB1 := Lib.hid (HB.out.trans ((below_new wr (.cells #[.int .i64 x.kind, .string x.text, .string x.glyph] 37)).mono hsz))
      go_wp2_with fail
      refine (HT.out _).mono ?_
      rintro e w2 ⟨rfl, hb⟩
      have HB2 := Lib.hid (HB1.out.trans (hb.mono HB1.out.size))
      clear hb
      cases ht : isTok x with
      | false =>
        have h81 : R = 81 := by rw [HR.out]; exact checkOf_bad (any_bad HGi.out ht)
        subst h81
        clear ht HR HGi
        go_wp2_with fail
        go_ret
        exact ⟨rfl, HB2.out⟩
      | true =>
        have HJ2 := Lib.hid (show ∀ j y, j < i + 1 → l[j]? = some y → isTok y = true from fun j y hj hy => by
          by_cases h : j < i
          · exact HJ.out j y h hy
          · obtain rfl : j = i := by omega
            rw [HGi.out] at hy
            cases hy
            exact ht)
        clear ht HGi
        go_wp2_with fail
        go_roundw
        case rel => exact ⟨i + 1, by go_num, by omega, HJ2, HB2⟩
        case measure => simp [intOf]; omega
    · obtain rfl : i = l.length := by omega
      have i1 : ¬ (l.length : Int) < (l.length : Int) := by omega
      have hall : l.all isTok = true := by
        rw [List.all_eq_true]
        intro x hx
        obtain ⟨j, hj⟩ := List.getElem?_of_mem hx
        exact HJ.out j x (List.getElem?_eq_some_iff.1 hj).1 hj
      have hR1 : R = if codeOf l = 0 then (if 100 < l.length then 70 else 0) else codeOf l := by rw [HR.out]; unfold checkOf; rw [hall, if_pos rfl]
      have HR1 := Lib.hid hR1
      have HM2 := Lib.hid (HM.out wr (HH.out.below HB.out) (HG.out.below HB.out))
      clear hall hR1 HR HJ HM
      generalize codeOf l = C at *
      generalize matchOf l = M at *
      go_wp2_with fail
      refine HM2.out.mono ?_
      rintro e w2 ⟨B, d, rfl, hI, hb⟩
      have HB2 := Lib.hid (HB.out.trans (hb.mono hsz))
      clear hI hb HM2
      by_cases hC : C = 0
      · subst hC
        have e9 := HR1.out
        rw [if_pos rfl] at e9
        by_cases h100 : 100 < l.length
        · rw [if_pos h100] at e9
          subst e9
          have i2 : (100 : Int) < (l.length : Int) := by omega
          clear HR1
          go_wp2_with fail
          go_ret
          exact ⟨rfl, HB2.out⟩
        · rw [if_neg h100] at e9
          subst e9
          have i2 : ¬ (100 : Int) < (l.length : Int) := by omega
          clear HR1
          go_wp2_with fail
          go_ret
          exact ⟨rfl, HB2.out⟩
      · have e9 := HR1.out
        rw [if_neg hC] at e9
        subst e9
        have qC : (R != 0) = true := by simp [hC]
        clear HR1
        go_wp2_with fail
        go_ret
        exact ⟨by first | rfl | (rw [if_neg hC]; rfl), HB2.out⟩

theorem par_of_row {W : World} {Q : Nat} {A : Option Addr} {c : Nat} {env : List Bd} {inner : Bool} (h : W.heap[Q]? = some (.cells #[.slice A env.length c, .bool inner] 60 (0, 0))) (he : HoldsE W A env) (hc : env.length ≤ c) (hl : env.length ≤ 100000) : Par W Q A c env inner :=
  ⟨by simp [World.cell?, h], by simp [World.cell?, h], he, hc, hl⟩
/-! ### The three parsers -/
/-- Nodes and a number. -/
def GivesN (o : List Nd × Int) (e : Ending) (w w' : World) : Prop := ∃ A c, e = .returned (.tuple #[.slice A o.1.length c, .int .i64 o.2]) ∧ HoldsN w' A o.1 ∧ o.1.length ≤ c ∧ (o.2 = 0 → OkT o.1) ∧ Below w.heap.size w w'
set_option maxRecDepth 100000 in
set_option maxHeartbeats 4000000 in
theorem parse_expr (b : Addr) (r : PR) (pb : Nat) (TA : Option Addr) (c : Nat) (l : List Tok) (w : World) (hl : mildT l) (hh : HoldsT w TA l) (hg : Gz.Listed w) (hs : errSyntaxAt b w)
    (hr : checkOf l = 0 → ∀ W, Below w.heap.size w W → Calls Tryz.prog 32 #[.pointer (some ⟨pb, 0, none⟩), .slice TA l.length c] W (GivesP r b · W ·)) :
    Calls Tryz.prog 31 #[.slice TA l.length c, .func (.func 32) #[.pointer (some ⟨pb, 0, none⟩)] #[]] w (GivesN (parseOf l r) · w ·) := by
  have HC := Lib.hid (checked_any TA c l w hl hh hg)
  obtain ⟨R, hR⟩ : ∃ R, R = parseOf l r := ⟨_, rfl⟩
  rw [← hR]
  unfold parseOf at hR
  have HG := Lib.hid hg
  have HS := Lib.hid hs
  have HSy := Lib.hid (fun W (hb : Below w.heap.size w W) => told_syn b W ((hb.cell (p := ⟨1, 0, none⟩) (cell_lt hs)).trans hs))
  have HTo := Lib.hid (fun k W (hb : Below w.heap.size w W) => told_any k b W (hg.below hb).type_ ((hb.cell (p := ⟨1, 0, none⟩) (cell_lt hs)).trans hs))
  by_cases h0 : checkOf l = 0
  · rw [if_pos h0] at hR HC
    have HRd := Lib.hid (hr h0)
    have HR := Lib.hid hR
    clear hr hh hg hs h0 hR hl
    go_enter Tryz.func31, Tryz.ntmps31
    go_wp2_with fail
    refine HC.out.mono ?_
    rintro e w1 ⟨rfl, hb⟩
    have HB1 := Lib.hid hb
    clear hb
    go_wp2_with fail
    refine (HRd.out w1 HB1.out).mono ?_
    intro e w2 hG
    have HB2 := Lib.hid (HB1.out.trans (hG.1.mono HB1.out.size))
    rcases hG.ways with ⟨t, B, d, L, rfl, rfl, hN, hM, hO⟩ | ⟨y, rfl, rfl⟩
    · obtain ⟨hT, hd⟩ := has_holds hN hM
      have HF := Lib.hid (show GivesN R (.returned (.tuple #[.slice B t.length d, .int .i64 0])) w w2 by
        rw [HR.out]
        exact ⟨B, d, rfl, hT, hd, fun _ => hO, HB2.out⟩)
      clear hG hN hM hO hT HR
      go_wp2_with fail
      go_ret2
      exact HF.out
    · cases y with
      | true =>
        have HC2 := Lib.hid (HSy.out w2 HB2.out)
        have HF := Lib.hid (fun W (hb : Below w.heap.size w W) => show GivesN R (.returned (.tuple #[.slice none 0 0, .int .i64 80])) w W by
          rw [HR.out]
          exact ⟨none, 0, rfl, Nz.HoldsN.nil _ _, Nat.le_refl _, fun h => by simp [codeP] at h, hb⟩)
        unfold errT errX
        simp only [if_true]
        clear hG HR
        go_wp2_with fail
        refine HC2.out.mono ?_
        rintro e w3 ⟨rfl, hb⟩
        have HB3 := Lib.hid (HB2.out.trans (hb.mono HB2.out.size))
        clear hb
        go_wp2_with fail
        go_ret2
        exact HF.out _ HB3.out
      | false =>
        have HC2 := Lib.hid (HTo.out 70 w2 HB2.out)
        have HF := Lib.hid (fun W (hb : Below w.heap.size w W) => show GivesN R (.returned (.tuple #[.slice none 0 0, .int .i64 70])) w W by
          rw [HR.out]
          exact ⟨none, 0, rfl, Nz.HoldsN.nil _ _, Nat.le_refl _, fun h => by simp [codeP] at h, hb⟩)
        unfold errT errX
        simp only [Bool.false_eq_true, if_false]
        clear hG HR
        go_wp2_with fail
        refine HC2.out.mono ?_
        rintro e w3 ⟨rfl, hb⟩
        have HB3 := Lib.hid (HB2.out.trans (hb.mono HB2.out.size))
        clear hb
        go_wp2_with fail
        go_ret2
        exact HF.out _ HB3.out
  · rw [if_neg h0] at hR HC
    have HF := Lib.hid (fun W (hb : Below w.heap.size w W) => show GivesN R (.returned (.tuple #[.slice none 0 0, .int .i64 (checkOf l)])) w W by
      rw [hR]
      exact ⟨none, 0, rfl, Nz.HoldsN.nil _ _, Nat.le_refl _, fun h => absurd h h0, hb⟩)
    clear hr hh hg hs h0 hR hl
    generalize checkOf l = k at *
    go_enter Tryz.func31, Tryz.ntmps31
    go_wp2_with fail
    refine HC.out.mono ?_
    rintro e w1 ⟨rfl, hb⟩
    have HB1 := Lib.hid hb
    have HC2 := Lib.hid (HTo.out k w1 hb)
    clear hb
    go_wp2_with fail
    refine HC2.out.mono ?_
    rintro e w3 ⟨rfl, hb⟩
    have HB3 := Lib.hid (HB1.out.trans (hb.mono HB1.out.size))
    clear hb
    go_wp2_with fail
    go_ret2
    exact HF.out _ HB3.out
set_option maxRecDepth 100000 in
set_option maxHeartbeats 4000000 in
theorem parse_fun (b : Addr) (r : PR) (pb : Nat) (TA : Option Addr) (c : Nat) (l : List Tok) (w : World) (hl : mildT l) (hh : HoldsT w TA l) (hg : Gz.Listed w) (hs : errSyntaxAt b w)
    (hr : checkOf l = 0 → ∀ W, Below w.heap.size w W → Calls Tryz.prog 33 #[.pointer (some ⟨pb, 0, none⟩), .slice TA l.length c] W (GivesP r b · W ·)) :
    Calls Tryz.prog 31 #[.slice TA l.length c, .func (.func 33) #[.pointer (some ⟨pb, 0, none⟩)] #[]] w (GivesN (parseOf l r) · w ·) := by
  have HC := Lib.hid (checked_any TA c l w hl hh hg)
  obtain ⟨R, hR⟩ : ∃ R, R = parseOf l r := ⟨_, rfl⟩
  rw [← hR]
  unfold parseOf at hR
  have HG := Lib.hid hg
  have HS := Lib.hid hs
  have HSy := Lib.hid (fun W (hb : Below w.heap.size w W) => told_syn b W ((hb.cell (p := ⟨1, 0, none⟩) (cell_lt hs)).trans hs))
  have HTo := Lib.hid (fun k W (hb : Below w.heap.size w W) => told_any k b W (hg.below hb).type_ ((hb.cell (p := ⟨1, 0, none⟩) (cell_lt hs)).trans hs))
  by_cases h0 : checkOf l = 0
  · rw [if_pos h0] at hR HC
    have HRd := Lib.hid (hr h0)
    have HR := Lib.hid hR
    clear hr hh hg hs h0 hR hl
    go_enter Tryz.func31, Tryz.ntmps31
    go_wp2_with fail
    refine HC.out.mono ?_
    rintro e w1 ⟨rfl, hb⟩
    have HB1 := Lib.hid hb
    clear hb
    go_wp2_with fail
    refine (HRd.out w1 HB1.out).mono ?_
    intro e w2 hG
    have HB2 := Lib.hid (HB1.out.trans (hG.1.mono HB1.out.size))
    rcases hG.ways with ⟨t, B, d, L, rfl, rfl, hN, hM, hO⟩ | ⟨y, rfl, rfl⟩
    · obtain ⟨hT, hd⟩ := has_holds hN hM
      have HF := Lib.hid (show GivesN R (.returned (.tuple #[.slice B t.length d, .int .i64 0])) w w2 by
        rw [HR.out]
        exact ⟨B, d, rfl, hT, hd, fun _ => hO, HB2.out⟩)
      clear hG hN hM hO hT HR
      go_wp2_with fail
      go_ret2
      exact HF.out
    · cases y with
      | true =>
        have HC2 := Lib.hid (HSy.out w2 HB2.out)
        have HF := Lib.hid (fun W (hb : Below w.heap.size w W) => show GivesN R (.returned (.tuple #[.slice none 0 0, .int .i64 80])) w W by
          rw [HR.out]
          exact ⟨none, 0, rfl, Nz.HoldsN.nil _ _, Nat.le_refl _, fun h => by simp [codeP] at h, hb⟩)
        unfold errT errX
        simp only [if_true]
        clear hG HR
        go_wp2_with fail
        refine HC2.out.mono ?_
        rintro e w3 ⟨rfl, hb⟩
        have HB3 := Lib.hid (HB2.out.trans (hb.mono HB2.out.size))
        clear hb
        go_wp2_with fail
        go_ret2
        exact HF.out _ HB3.out
      | false =>
        have HC2 := Lib.hid (HTo.out 70 w2 HB2.out)
        have HF := Lib.hid (fun W (hb : Below w.heap.size w W) => show GivesN R (.returned (.tuple #[.slice none 0 0, .int .i64 70])) w W by
          rw [HR.out]
          exact ⟨none, 0, rfl, Nz.HoldsN.nil _ _, Nat.le_refl _, fun h => by simp [codeP] at h, hb⟩)
        unfold errT errX
        simp only [Bool.false_eq_true, if_false]
        clear hG HR
        go_wp2_with fail
        refine HC2.out.mono ?_
        rintro e w3 ⟨rfl, hb⟩
        have HB3 := Lib.hid (HB2.out.trans (hb.mono HB2.out.size))
        clear hb
        go_wp2_with fail
        go_ret2
        exact HF.out _ HB3.out
  · rw [if_neg h0] at hR HC
    have HF := Lib.hid (fun W (hb : Below w.heap.size w W) => show GivesN R (.returned (.tuple #[.slice none 0 0, .int .i64 (checkOf l)])) w W by
      rw [hR]
      exact ⟨none, 0, rfl, Nz.HoldsN.nil _ _, Nat.le_refl _, fun h => absurd h h0, hb⟩)
    clear hr hh hg hs h0 hR hl
    generalize checkOf l = k at *
    go_enter Tryz.func31, Tryz.ntmps31
    go_wp2_with fail
    refine HC.out.mono ?_
    rintro e w1 ⟨rfl, hb⟩
    have HB1 := Lib.hid hb
    have HC2 := Lib.hid (HTo.out k w1 hb)
    clear hb
    go_wp2_with fail
    refine HC2.out.mono ?_
    rintro e w3 ⟨rfl, hb⟩
    have HB3 := Lib.hid (HB1.out.trans (hb.mono HB1.out.size))
    clear hb
    go_wp2_with fail
    go_ret2
    exact HF.out _ HB3.out
set_option maxRecDepth 100000 in
set_option maxHeartbeats 4000000 in
theorem parse_statement (b : Addr) (r : PR) (pb : Nat) (TA : Option Addr) (c : Nat) (l : List Tok) (w : World) (hl : mildT l) (hh : HoldsT w TA l) (hg : Gz.Listed w) (hs : errSyntaxAt b w)
    (hr : checkOf l = 0 → ∀ W, Below w.heap.size w W → Calls Tryz.prog 41 #[.pointer (some ⟨pb, 0, none⟩), .slice TA l.length c] W (GivesP r b · W ·)) :
    Calls Tryz.prog 31 #[.slice TA l.length c, .func (.func 41) #[.pointer (some ⟨pb, 0, none⟩)] #[]] w (GivesN (parseOf l r) · w ·) := by
  have HC := Lib.hid (checked_any TA c l w hl hh hg)
  obtain ⟨R, hR⟩ : ∃ R, R = parseOf l r := ⟨_, rfl⟩
  rw [← hR]
  unfold parseOf at hR
  have HG := Lib.hid hg
  have HS := Lib.hid hs
  have HSy := Lib.hid (fun W (hb : Below w.heap.size w W) => told_syn b W ((hb.cell (p := ⟨1, 0, none⟩) (cell_lt hs)).trans hs))
  have HTo := Lib.hid (fun k W (hb : Below w.heap.size w W) => told_any k b W (hg.below hb).type_ ((hb.cell (p := ⟨1, 0, none⟩) (cell_lt hs)).trans hs))
  by_cases h0 : checkOf l = 0
  · rw [if_pos h0] at hR HC
    have HRd := Lib.hid (hr h0)
    have HR := Lib.hid hR
    clear hr hh hg hs h0 hR hl
    go_enter Tryz.func31, Tryz.ntmps31
    go_wp2_with fail
    refine HC.out.mono ?_
    rintro e w1 ⟨rfl, hb⟩
    have HB1 := Lib.hid hb
    clear hb
    go_wp2_with fail
    refine (HRd.out w1 HB1.out).mono ?_
    intro e w2 hG
    have HB2 := Lib.hid (HB1.out.trans (hG.1.mono HB1.out.size))
    rcases hG.ways with ⟨t, B, d, L, rfl, rfl, hN, hM, hO⟩ | ⟨y, rfl, rfl⟩
    · obtain ⟨hT, hd⟩ := has_holds hN hM
      have HF := Lib.hid (show GivesN R (.returned (.tuple #[.slice B t.length d, .int .i64 0])) w w2 by
        rw [HR.out]
        exact ⟨B, d, rfl, hT, hd, fun _ => hO, HB2.out⟩)
      clear hG hN hM hO hT HR
      go_wp2_with fail
      go_ret2
      exact HF.out
    · cases y with
      | true =>
        have HC2 := Lib.hid (HSy.out w2 HB2.out)
        have HF := Lib.hid (fun W (hb : Below w.heap.size w W) => show GivesN R (.returned (.tuple #[.slice none 0 0, .int .i64 80])) w W by
          rw [HR.out]
          exact ⟨none, 0, rfl, Nz.HoldsN.nil _ _, Nat.le_refl _, fun h => by simp [codeP] at h, hb⟩)
        unfold errT errX
        simp only [if_true]
        clear hG HR
        go_wp2_with fail
        refine HC2.out.mono ?_
        rintro e w3 ⟨rfl, hb⟩
        have HB3 := Lib.hid (HB2.out.trans (hb.mono HB2.out.size))
        clear hb
        go_wp2_with fail
        go_ret2
        exact HF.out _ HB3.out
      | false =>
        have HC2 := Lib.hid (HTo.out 70 w2 HB2.out)
        have HF := Lib.hid (fun W (hb : Below w.heap.size w W) => show GivesN R (.returned (.tuple #[.slice none 0 0, .int .i64 70])) w W by
          rw [HR.out]
          exact ⟨none, 0, rfl, Nz.HoldsN.nil _ _, Nat.le_refl _, fun h => by simp [codeP] at h, hb⟩)
        unfold errT errX
        simp only [Bool.false_eq_true, if_false]
        clear hG HR
        go_wp2_with fail
        refine HC2.out.mono ?_
        rintro e w3 ⟨rfl, hb⟩
        have HB3 := Lib.hid (HB2.out.trans (hb.mono HB2.out.size))
        clear hb
        go_wp2_with fail
        go_ret2
        exact HF.out _ HB3.out
  · rw [if_neg h0] at hR HC
    have HF := Lib.hid (fun W (hb : Below w.heap.size w W) => show GivesN R (.returned (.tuple #[.slice none 0 0, .int .i64 (checkOf l)])) w W by
      rw [hR]
      exact ⟨none, 0, rfl, Nz.HoldsN.nil _ _, Nat.le_refl _, fun h => absurd h h0, hb⟩)
    clear hr hh hg hs h0 hR hl
    generalize checkOf l = k at *
    go_enter Tryz.func31, Tryz.ntmps31
    go_wp2_with fail
    refine HC.out.mono ?_
    rintro e w1 ⟨rfl, hb⟩
    have HB1 := Lib.hid hb
    have HC2 := Lib.hid (HTo.out k w1 hb)
    clear hb
    go_wp2_with fail
    refine HC2.out.mono ?_
    rintro e w3 ⟨rfl, hb⟩
    have HB3 := Lib.hid (HB1.out.trans (hb.mono HB1.out.size))
    clear hb
    go_wp2_with fail
    go_ret2
    exact HF.out _ HB3.out
theorem okL_of {l : List Tok} (h : checkOf l = 0) (hs : ∀ x ∈ l, x.text.size ≤ 1000 ∧ x.glyph.size ≤ 1000) : OkL l := by
  unfold checkOf at h
  cases ha : l.all isTok with
  | false => rw [ha] at h; simp at h
  | true =>
    rw [ha, if_pos rfl] at h
    by_cases hc : codeOf l = 0
    · rw [if_pos hc] at h
      by_cases h1 : 100 < l.length
      · rw [if_pos h1] at h; omega
      · exact ⟨by omega, hs, fun x hx => isTok_kinds (List.all_eq_true.1 ha x hx)⟩
    · rw [if_neg hc] at h
      exact absurd h hc
set_option maxRecDepth 100000 in
set_option maxHeartbeats 4000000 in
theorem Expr_k (k : Nat) (a b : Addr) (EA : Option Addr) (ce : Nat) (env : List Bd) (inner : Bool) (TA : Option Addr) (c : Nat) (l : List Tok) (w : World) (hl : mildT l) (hs : ∀ x ∈ l, x.text.size ≤ 1000 ∧ x.glyph.size ≤ 1000) (hc : l.length ≤ c) (hh : HoldsT w TA l) (he : HoldsE w EA env) (hec : env.length ≤ ce) (hel : env.length ≤ 1000) (hw : WOk a b w) (hk : checkOf l = 0 → 2 * l.length + 2 ≤ k) :
    Calls Tryz.prog 16 #[.slice TA l.length c, .slice EA env.length ce, .bool inner] w (GivesN (parseOf l ((pz k).expr env inner l)) · w ·) := by
  have hbQ := below_new w (.cells #[.slice EA env.length ce, .bool inner] 60)
  have hrow := heap_alloc_new w (.cells #[.slice EA env.length ce, .bool inner] 60)
  have hP : Par (w.alloc (.cells #[.slice EA env.length ce, .bool inner] 60)) w.heap.size EA ce env inner := par_of_row hrow (he.below hbQ) hec (by omega)
  have HC := Lib.hid (parse_expr b ((pz k).expr env inner l) w.heap.size TA c l _ hl (hh.below hbQ) (hw.below hbQ).listed (hw.below hbQ).syn (fun h0 W hb => by
    have hO := okL_of h0 hs
    have h100 := hO.len
    exact (pz_ok a b k l.length).1 (by have := hk h0; omega) w.heap.size EA ce env inner l TA c W (Nat.le_refl _) (by omega) hO hc ((hh.below hbQ).below hb) (hP.below hb) ((hw.below hbQ).below hb)))
  have HB := Lib.hid hbQ
  generalize parseOf l ((pz k).expr env inner l) = o at *
  clear hbQ hrow hP hh he hw hl hs
  go_enter Tryz.func16, Tryz.ntmps16
  go_wp2_with fail
  refine HC.out.mono ?_
  rintro e w2 ⟨B, d, rfl, h1, h2, h3, hb⟩
  have HF := Lib.hid (show GivesN o (.returned (.tuple #[.slice B o.1.length d, .int .i64 o.2])) w w2 from ⟨B, d, rfl, h1, h2, h3, HB.out.trans (hb.mono HB.out.size)⟩)
  clear h1 h3 hb
  go_wp2_with fail
  go_ret2
  exact HF.out
set_option maxRecDepth 100000 in
set_option maxHeartbeats 4000000 in
theorem Fun_k (k : Nat) (a b : Addr) (EA : Option Addr) (ce : Nat) (env : List Bd) (inner : Bool) (TA : Option Addr) (c : Nat) (l : List Tok) (w : World) (hl : mildT l) (hs : ∀ x ∈ l, x.text.size ≤ 1000 ∧ x.glyph.size ≤ 1000) (hc : l.length ≤ c) (hh : HoldsT w TA l) (he : HoldsE w EA env) (hec : env.length ≤ ce) (hel : env.length ≤ 1000) (hw : WOk a b w) (hk : checkOf l = 0 → 2 * l.length + 2 ≤ k) :
    Calls Tryz.prog 17 #[.slice TA l.length c, .slice EA env.length ce, .bool inner] w (GivesN (parseOf l ((pz k).fn env inner l)) · w ·) := by
  have hbQ := below_new w (.cells #[.slice EA env.length ce, .bool inner] 60)
  have hrow := heap_alloc_new w (.cells #[.slice EA env.length ce, .bool inner] 60)
  have hP : Par (w.alloc (.cells #[.slice EA env.length ce, .bool inner] 60)) w.heap.size EA ce env inner := par_of_row hrow (he.below hbQ) hec (by omega)
  have HC := Lib.hid (parse_fun b ((pz k).fn env inner l) w.heap.size TA c l _ hl (hh.below hbQ) (hw.below hbQ).listed (hw.below hbQ).syn (fun h0 W hb => by
    have hO := okL_of h0 hs
    have h100 := hO.len
    exact (pz_ok a b k l.length).2.1 (by have := hk h0; omega) w.heap.size EA ce env inner l TA c W (Nat.le_refl _) (by omega) hO hc ((hh.below hbQ).below hb) (hP.below hb) ((hw.below hbQ).below hb)))
  have HB := Lib.hid hbQ
  generalize parseOf l ((pz k).fn env inner l) = o at *
  clear hbQ hrow hP hh he hw hl hs
  go_enter Tryz.func17, Tryz.ntmps17
  go_wp2_with fail
  refine HC.out.mono ?_
  rintro e w2 ⟨B, d, rfl, h1, h2, h3, hb⟩
  have HF := Lib.hid (show GivesN o (.returned (.tuple #[.slice B o.1.length d, .int .i64 o.2])) w w2 from ⟨B, d, rfl, h1, h2, h3, HB.out.trans (hb.mono HB.out.size)⟩)
  clear h1 h3 hb
  go_wp2_with fail
  go_ret2
  exact HF.out
set_option maxRecDepth 100000 in
set_option maxHeartbeats 4000000 in
theorem Statement_k (k : Nat) (a b : Addr) (EA : Option Addr) (ce : Nat) (env : List Bd) (inner : Bool) (TA : Option Addr) (c : Nat) (l : List Tok) (w : World) (hl : mildT l) (hs : ∀ x ∈ l, x.text.size ≤ 1000 ∧ x.glyph.size ≤ 1000) (hc : l.length ≤ c) (hh : HoldsT w TA l) (he : HoldsE w EA env) (hec : env.length ≤ ce) (hel : env.length ≤ 1000) (hw : WOk a b w) (hk : checkOf l = 0 → 2 * l.length + 2 ≤ k) :
    Calls Tryz.prog 21 #[.slice TA l.length c, .slice EA env.length ce, .bool inner] w (GivesN (parseOf l ((pz k).stmt env inner l)) · w ·) := by
  have hbQ := below_new w (.cells #[.slice EA env.length ce, .bool inner] 60)
  have hrow := heap_alloc_new w (.cells #[.slice EA env.length ce, .bool inner] 60)
  have hP : Par (w.alloc (.cells #[.slice EA env.length ce, .bool inner] 60)) w.heap.size EA ce env inner := par_of_row hrow (he.below hbQ) hec (by omega)
  have HC := Lib.hid (parse_statement b ((pz k).stmt env inner l) w.heap.size TA c l _ hl (hh.below hbQ) (hw.below hbQ).listed (hw.below hbQ).syn (fun h0 W hb => by
    have hO := okL_of h0 hs
    have h100 := hO.len
    exact (pz_ok a b k l.length).2.2 (by have := hk h0; omega) w.heap.size EA ce env inner l TA c W (Nat.le_refl _) (by omega) hO hc ((hh.below hbQ).below hb) (hP.below hb) ((hw.below hbQ).below hb)))
  have HB := Lib.hid hbQ
  generalize parseOf l ((pz k).stmt env inner l) = o at *
  clear hbQ hrow hP hh he hw hl hs
  go_enter Tryz.func21, Tryz.ntmps21
  go_wp2_with fail
  refine HC.out.mono ?_
  rintro e w2 ⟨B, d, rfl, h1, h2, h3, hb⟩
  have HF := Lib.hid (show GivesN o (.returned (.tuple #[.slice B o.1.length d, .int .i64 o.2])) w w2 from ⟨B, d, rfl, h1, h2, h3, HB.out.trans (hb.mono HB.out.size)⟩)
  clear h1 h3 hb
  go_wp2_with fail
  go_ret2
  exact HF.out
theorem Statement_any (a b : Addr) (EA : Option Addr) (ce : Nat) (env : List Bd) (inner : Bool) (TA : Option Addr) (c : Nat) (l : List Tok) (w : World) (hl : mildT l) (hs : ∀ x ∈ l, x.text.size ≤ 1000 ∧ x.glyph.size ≤ 1000) (hc : l.length ≤ c) (hh : HoldsT w TA l) (he : HoldsE w EA env) (hec : env.length ≤ ce) (hel : env.length ≤ 1000) (hw : WOk a b w) :
    Calls Tryz.prog 21 #[.slice TA l.length c, .slice EA env.length ce, .bool inner] w (GivesN (stmtOf l env inner) · w ·) := Statement_k _ a b EA ce env inner TA c l w hl hs hc hh he hec hel hw (fun _ => Nat.le_refl _)
end Go.Proofs.YtebejlnegalokaaGreatDoor
/-
  Known trees: by the program.
-/
namespace Go.Proofs.YtebejlnegalokaaGreatDoor
open Go Go.RowKit Go.Maps
open Gz (Tok HoldsT mildT codeOf)
open Nz (Nd rightN joinN HoldsN IntN HoldsTs errNodeAt showN)

def gTok (x : Lz.Tok) : Tok := ⟨x.kind, x.text, x.glyph⟩
theorem holds_g {w : World} {A : Option Addr} {l : List Lz.Tok} (h : Lz.HoldsT w A l) : HoldsT w A (l.map gTok) := by
  intro k x hx
  rw [List.getElem?_map] at hx
  cases hy : l[k]? with
  | none => rw [hy] at hx; cases hx
  | some y =>
    rw [hy] at hx
    cases hx
    exact h k y hy
/-- A line's tokens, without blanks and remarks. -/
def toksOf (s : ByteArray) : List Tok := (Lz.plainT (Lz.dLine s)).map gTok
set_option maxHeartbeats 1000000 in
theorem plain_any (s : ByteArray) (w : World) (hs : s.size ≤ 8000) (hl : (Lz.dLine s).length ≤ 100000) :
    Calls Tryz.prog 22 #[.string s] w fun e w' => ∃ A c, e = .returned (.slice A (toksOf s).length c) ∧ HoldsT w' A (toksOf s) ∧ (toksOf s).length ≤ c ∧ Below w.heap.size w w' := by
  have HL := Lib.hid (Lz.Rf.line_full s w hs)
  have HP := Lib.hid (fun A c W (h : Lz.HoldsT W A (Lz.dLine s)) => Lz.refPlain_any (Lz.dLine s) A c W hl h)
  have hlen : (toksOf s).length = (Lz.plainT (Lz.dLine s)).length := List.length_map _
  rw [hlen]
  have HF := Lib.hid (fun W A (h : Lz.HoldsT W A (Lz.plainT (Lz.dLine s))) => show HoldsT W A (toksOf s) from holds_g h)
  clear hlen hl
  generalize toksOf s = t at *
  generalize Lz.plainT (Lz.dLine s) = p at *
  generalize Lz.dLine s = d at *
  go_enter Tryz.func22, Tryz.ntmps22
  go_wp2_with fail
  refine HL.out.mono ?_
  rintro e w1 ⟨A, c, rfl, hT, hc, hb⟩
  have HB := Lib.hid hb
  have HC := Lib.hid (HP.out A c w1 hT)
  clear hT hb
  go_wp2_with fail
  refine HC.out.mono ?_
  rintro e w2 ⟨v, rfl, hown, hb⟩
  obtain ⟨B, d2, rfl, -, hT, hd⟩ := Lz.holdsT_of_own hown
  have HT := Lib.hid (HF.out w2 B hT)
  have HB2 := Lib.hid (HB.out.trans (hb.mono HB.out.size))
  clear hown hT hb
  go_wp2_with fail
  go_ret
  exact ⟨B, d2, rfl, HT.out, hd, HB2.out⟩

def sA : ByteArray := ⟨#[43, 47, 49, 32, 50]⟩
def sB : ByteArray := ⟨#[102, 226, 134, 144, 123, 226, 141, 181, 62, 48, 58, 226, 141, 186, 32, 226, 139, 132, 32, 48, 125]⟩
def sC : ByteArray := ⟨#[226, 141, 181]⟩
theorem shown_A : (stmtOf (toksOf sA) [] false).2 = 0 := by decide +kernel
theorem shown_A2 : showN (stmtOf (toksOf sA) [] false).1 = ⟨#[40, 54, 58, 32, 40, 49, 48, 58, 47, 32, 57, 58, 43, 41, 32, 49, 58, 49, 37, 50, 48, 50, 41]⟩ := by decide +kernel
theorem shown_B : (stmtOf (toksOf sB) [] false).2 = 0 := by decide +kernel
theorem shown_B1 : bindsN (stmtOf (toksOf sB) [] false).1 = some ⟨⟨#[102]⟩, true⟩ := by decide +kernel
theorem shown_C : (stmtOf (toksOf sC) [] false).2 = 80 := by decide +kernel
theorem shown_B2 : showN (stmtOf (toksOf sB) [] false).1 = ⟨#[40, 56, 58, 102, 32, 40, 49, 49, 58, 32, 40, 49, 50, 58, 32, 40, 55, 58, 32, 52, 58, 37, 101, 50, 37, 56, 100, 37, 98, 53, 32, 57, 58, 62, 32, 49, 58, 48, 41, 32, 52, 58, 37, 101, 50, 37, 56, 100, 37, 98, 97, 41, 32, 49, 58, 48, 41, 41]⟩ := by decide +kernel
theorem toks_small (s : ByteArray) (h : (toksOf s).length ≤ 100 ∧ (toksOf s).all (fun x => decide (x.text.size ≤ 1000) && decide (x.glyph.size ≤ 1000)) = true) : mildT (toksOf s) ∧ ∀ x ∈ toksOf s, x.text.size ≤ 1000 ∧ x.glyph.size ≤ 1000 := by
  have h2 : ∀ x ∈ toksOf s, x.text.size ≤ 1000 ∧ x.glyph.size ≤ 1000 := fun x hx => by
    have := List.all_eq_true.1 h.2 x hx
    simpa using this
  exact ⟨⟨by omega, fun k x hx => by have := h2 x (List.mem_of_getElem? hx); omega⟩, h2⟩
theorem small_A : (toksOf sA).length ≤ 100 ∧ (toksOf sA).all (fun x => decide (x.text.size ≤ 1000) && decide (x.glyph.size ≤ 1000)) = true := by decide +kernel
theorem small_B : (toksOf sB).length ≤ 100 ∧ (toksOf sB).all (fun x => decide (x.text.size ≤ 1000) && decide (x.glyph.size ≤ 1000)) = true := by decide +kernel
theorem small_C : (toksOf sC).length ≤ 100 ∧ (toksOf sC).all (fun x => decide (x.text.size ≤ 1000) && decide (x.glyph.size ≤ 1000)) = true := by decide +kernel
theorem stmt_shown (a b : Addr) (s : ByteArray) (h : (toksOf s).length ≤ 100 ∧ (toksOf s).all (fun x => decide (x.text.size ≤ 1000) && decide (x.glyph.size ≤ 1000)) = true) (TA : Option Addr) (c : Nat) (w : World) (hc : (toksOf s).length ≤ c) (hh : HoldsT w TA (toksOf s)) (hw : WOk a b w) :
    Calls Tryz.prog 21 #[.slice TA (toksOf s).length c, .slice none 0 0, .bool false] w (GivesN (stmtOf (toksOf s) [] false) · w ·) :=
  Statement_any a b none 0 [] false TA c (toksOf s) w (toks_small s h).1 (toks_small s h).2 hc hh (HoldsE.nil _ _) (Nat.le_refl _) (by simp) hw
set_option maxRecDepth 100000 in
set_option maxHeartbeats 8000000 in
theorem shown_any (a b : Addr) (w : World) (hw : WOk a b w) :
    Calls Tryz.prog 8 #[] w fun e w' => e = .returned (.bool true) ∧ Below w.heap.size w w' := by
  have PA := Lib.hid (fun W => plain_any sA W (by decide) (by decide +kernel))
  have PB := Lib.hid (fun W => plain_any sB W (by decide) (by decide +kernel))
  have PC := Lib.hid (fun W => plain_any sC W (by decide) (by decide +kernel))
  have SA := Lib.hid (stmt_shown a b sA small_A)
  have SB := Lib.hid (stmt_shown a b sB small_B)
  have SC := Lib.hid (stmt_shown a b sC small_C)
  have EA := shown_A
  have EA2 := shown_A2
  have EB := shown_B
  have EB1 := shown_B1
  have EB2 := shown_B2
  have EC := shown_C
  generalize stmtOf (toksOf sA) [] false = oA at *
  generalize stmtOf (toksOf sB) [] false = oB at *
  generalize stmtOf (toksOf sC) [] false = oC at *
  generalize toksOf sA = tA at *
  generalize toksOf sB = tB at *
  generalize toksOf sC = tC at *
  obtain ⟨tr, cA⟩ := oA
  obtain ⟨tu, cB⟩ := oB
  obtain ⟨tz, cC⟩ := oC
  simp only at EA EA2 EB EB1 EB2 EC
  subst EA EB EC
  unfold sA at PA
  unfold sB at PB
  unfold sC at PC
  have HW := Lib.hid hw
  have HA2 := Lib.hid EA2
  have HB1' := Lib.hid EB1
  have HB2' := Lib.hid EB2
  clear hw EA2 EB1 EB2
  go_enter Tryz.func8, Tryz.ntmps8
  go_wp2_with fail
  refine (PA.out _).mono ?_
  rintro e w1 ⟨A1, c1, rfl, hT, hc, hb⟩
  have HB1 := Lib.hid hb
  have HW1 := Lib.hid (HW.out.below hb)
  have HC := Lib.hid (SA.out A1 c1 w1 hc hT HW1.out)
  clear hT hc hb PA SA
  go_wp2_with fail
  refine HC.out.mono ?_
  rintro e w2 ⟨A2, c2, rfl, hT, hc, hO, hb⟩
  have HTr := Lib.hid hT
  have HOr := Lib.hid (hO rfl)
  have HB2 := Lib.hid (HB1.out.trans (hb.mono HB1.out.size))
  have HW2 := Lib.hid (HW1.out.below hb)
  clear hT hO hb HC
  simp only
  go_wp2_with fail
  refine (PB.out _).mono ?_
  rintro e w3 ⟨A3, c3, rfl, hT, hc3, hb⟩
  have HB3 := Lib.hid (HB2.out.trans (hb.mono HB2.out.size))
  have HW3 := Lib.hid (HW2.out.below hb)
  have HTr3 := Lib.hid (HTr.out.below hb)
  have HC := Lib.hid (SB.out A3 c3 w3 hc3 hT HW3.out)
  clear hT hc3 hb PB SB HTr
  go_wp2_with fail
  refine HC.out.mono ?_
  rintro e w4 ⟨A4, c4, rfl, hT, hc4, hO, hb⟩
  have HTu := Lib.hid hT
  have HOu := Lib.hid (hO rfl)
  have HB4 := Lib.hid (HB3.out.trans (hb.mono HB3.out.size))
  have HW4 := Lib.hid (HW3.out.below hb)
  have HTr4 := Lib.hid (HTr3.out.below hb)
  have HC := Lib.hid (binds_any tu HOu.out.int A4 c4 w4 HTu.out)
  rw [HB1'.out] at HC
  simp only [Option.getD_some, Option.isSome_some] at HC
  clear hT hO hb HTr3
  simp only
  go_wp2_with fail
  refine HC.out.mono ?_
  rintro e w5 ⟨rfl, hb⟩
  have hbK := below_new w5 (.cells #[.string ⟨#[102]⟩, .bool true] 30)
  have hb6 := hb.trans (hbK.mono hb.size)
  have HB5 := Lib.hid (HB4.out.trans (hb6.mono HB4.out.size))
  have HW5 := Lib.hid (HW4.out.below hb6)
  have HTr5 := Lib.hid (HTr4.out.below hb6)
  have HTu5 := Lib.hid (HTu.out.below hb6)
  have hrow := heap_alloc_new w5 (.cells #[.string ⟨#[102]⟩, .bool true] 30)
  have HRow := Lib.hid hrow
  clear hb hb6 hbK hrow HTr4 HTu HC
  go_wp2_with fail
  refine (PC.out _).mono ?_
  rintro e w6 ⟨A6, c6, rfl, hT, hc6, hb⟩
  have HB6 := Lib.hid (HB5.out.trans (hb.mono HB5.out.size))
  have HW6 := Lib.hid (HW5.out.below hb)
  have HTr6 := Lib.hid (HTr5.out.below hb)
  have HTu6 := Lib.hid (HTu5.out.below hb)
  have HRow6 := Lib.hid ((hb.block _ (by simp)).trans HRow.out)
  have HC := Lib.hid (SC.out A6 c6 w6 hc6 hT HW6.out)
  clear hT hc6 hb PC SC HTr5 HTu5 HRow
  go_wp2_with fail
  refine HC.out.mono ?_
  rintro e w7 ⟨A7, c7, rfl, hT, hc7, hO, hb⟩
  have HB7 := Lib.hid (HB6.out.trans (hb.mono HB6.out.size))
  have HTr7 := Lib.hid (HTr6.out.below hb)
  have HTu7 := Lib.hid (HTu6.out.below hb)
  have HRow7 := Lib.hid ((hb.block _ (Array.getElem?_eq_some_iff.1 HRow6.out).1).trans HRow6.out)
  have HC := Lib.hid (Nz.showAll_any tr A2 c2 w7 HTr7.out HOr.out.int)
  rw [HA2.out] at HC
  clear hT hO hb HTr6 HTu6 HRow6
  simp only
  go_wp2_with fail
  refine HC.out.mono ?_
  rintro e w8 ⟨rfl, hb⟩
  have HB8 := Lib.hid (HB7.out.trans (hb.mono HB7.out.size))
  have HTu8 := Lib.hid (HTu7.out.below hb)
  have hrow8 := (hb.block _ (Array.getElem?_eq_some_iff.1 HRow7.out).1).trans HRow7.out
  have r0 : w8.cell? ⟨w5.heap.size, 0, none⟩ = some (.string ⟨#[102]⟩) := by simp [World.cell?, hrow8]
  have r1 : w8.cell? ⟨w5.heap.size, 1, none⟩ = some (.bool true) := by simp [World.cell?, hrow8]
  have HC := Lib.hid (Nz.showAll_any tu A4 c4 w8 HTu8.out HOu.out.int)
  rw [HB2'.out] at HC
  clear hb HTu7 HRow7 hrow8
  go_wp2_with fail
  refine HC.out.mono ?_
  rintro e w9 ⟨rfl, hb⟩
  have HB9 := Lib.hid (HB8.out.trans (hb.mono HB8.out.size))
  clear hb
  go_wp2_with fail
  go_ret
  exact ⟨rfl, HB9.out⟩
end Go.Proofs.YtebejlnegalokaaGreatDoor
