/-
  What a tree makes of a name: by the program, by the reference; names' classes.
-/
import Derived.Test.YtebejlnegalokaaGreatDoorProg
import Derived.Test.YtebejlnegalokaaGreatDoorReg
import Derived.WalkKit
import Derived.WalkSpells
import Derived.WalkLawsBesides
import Derived.Lib.Hide
import Derived.Lib.MinMax
import Derived.Deep.QuietTactic
import Derived.BigQuiet
import Derived.OwnWalk
import Derived.Deep.AppendLies
import Derived.KernelRfl
import Derived.Test.YtebejlnegalokaaGreatDoorPw1
set_option linter.unusedSimpArgs false
set_option linter.unusedVariables false
namespace Go.Proofs.YtebejlnegalokaaGreatDoor
open Go Go.RowKit Go.Maps
open Gz (Tok)
open Nz (Nd rightN nodeAt nodesOk HoldsN NodeLies IntN HoldsI rightN_parts nodes_kid nodeAt_some nodesOk_at formOk)

def isFunAt (t : List Nd) (i : Nat) : Bool := isFunF t (i + 1) i
theorem Nz.getD_lt {l : List Int} {i : Nat} (h : i < l.length) : l.getD i 0 = l[i] := by rw [List.getD_eq_getElem?_getD, List.getElem?_eq_getElem h]; rfl
theorem isFunF_more {t : List Nd} (h : nodesOk 0 t = true) : ∀ (n f i : Nat), i < n → i < f → i < t.length → isFunF t f i = isFunAt t i
  | 0, f, i, h1, _, _ => by omega
  | n + 1, 0, i, _, h1, _ => by omega
  | n + 1, f + 1, i, h1, h2, h3 => by
    unfold isFunAt isFunF
    simp only [Int.toNat_natCast]
    split
    · rename_i hk
      have g := List.getElem?_eq_getElem h3
      have hf := (nodesOk_at h g).2
      rw [← nodeAt_some g] at hf
      have hne : 1 ≤ (nodeAt t i).kids.length := by
        unfold formOk at hf
        rw [hk] at hf
        simp [Nz.formAt] at hf
        omega
      have hmem : (nodeAt t i).kids.getD 0 0 ∈ (nodeAt t i).kids := by
        rw [Nz.getD_lt (by omega)]
        exact List.getElem_mem _
      have hr := nodes_kid h h3 hmem
      have e : (((nodeAt t i).kids.getD 0 0).toNat : Int) = (nodeAt t i).kids.getD 0 0 := by omega
      rw [← e, isFunF_more h n f _ (by omega) (by omega) (by omega), isFunF_more h n i _ (by omega) (by omega) (by omega)]
    · rfl
/-- What the loop, or a call of its own, comes to. -/
theorem isFunAt_paren {t : List Nd} (h : nodesOk 0 t = true) {i : Nat} {x : Nd} (hx : t[i]? = some x) (hk : x.kind = 5) : ∃ j : Nat, x.kids[0]? = some (j : Int) ∧ j < i ∧ isFunAt t i = isFunAt t j := by
  have h3 : i < t.length := (List.getElem?_eq_some_iff.1 hx).1
  have hf := (nodesOk_at h hx).2
  have hne : 1 ≤ x.kids.length := by
    unfold formOk at hf
    rw [hk] at hf
    simp [Nz.formAt] at hf
    omega
  have g := List.getElem?_eq_getElem (l := x.kids) (i := 0) (by omega)
  have hmem : x.kids[0] ∈ x.kids := List.getElem_mem _
  have hr := nodes_kid h h3 (k := x.kids[0]) (by rw [nodeAt_some hx]; exact hmem)
  have hu : isFunAt t i = isFunF t i (x.kids.getD 0 0) := by
    conv => lhs; unfold isFunAt isFunF
    simp only [Int.toNat_natCast, nodeAt_some hx, if_pos hk]
  have e : ((x.kids[0].toNat : Nat) : Int) = x.kids[0] := by omega
  refine ⟨x.kids[0].toNat, by rw [e]; exact g, by omega, ?_⟩
  rw [hu, Nz.getD_lt (by omega), ← e, isFunF_more h (i + 1) i _ (by omega) (by omega) (by omega)]
  simp only [Int.toNat_natCast]
theorem isFunAt_other {t : List Nd} {i : Nat} {x : Nd} (hx : t[i]? = some x) (hk : x.kind ≠ 5) : isFunAt t i = (decide (x.kind = 9) || (decide (x.kind = 14) || (decide (x.kind = 10) || decide (x.kind = 11)))) := by
  unfold isFunAt isFunF
  simp only [Int.toNat_natCast, nodeAt_some hx, if_neg hk]

set_option maxHeartbeats 2000000 in
theorem isFun_any (t : List Nd) (hok : nodesOk 0 t = true) (hI : IntN t) (hl : t.length ≤ 400) (A : Option Addr) (c : Nat) (w : World) (hh : HoldsN w A t) (i : Nat) (hi : i < t.length) :
    Calls Tryz.prog 27 #[.slice A t.length c, .int .i64 i] w fun e w' => e = .returned (.bool (isFunAt t i)) ∧ w' = w := by
  obtain ⟨R, hR⟩ : ∃ R, R = isFunAt t i := ⟨_, rfl⟩
  rw [← hR]
  have HH := Lib.hid hh
  have HI := Lib.hid hI
  have HO := Lib.hid hok
  clear hh hI hok
  go_enter Tryz.func27, Tryz.ntmps27
  go_wp2_with fail
  go_loopw [1] (fun s wr => ∃ (j : Nat), s = .int .i64 j ∧ j < t.length ∧ Hid (R = isFunAt t j) ∧ wr = w) (fun s _ => (intOf s).toNat)
  case atStart => exact ⟨i, rfl, hi, Lib.hid hR, by first | trivial | rfl⟩
  case round =>
    obtain ⟨j, rfl, hj, HJ, rfl⟩ := hrel
    have g := List.getElem?_eq_getElem hj
    have hmem := List.getElem_mem hj
    obtain ⟨b, off, rfl, c0, c1, B, c2, c3, hK, hc⟩ := HH.out j _ g
    obtain ⟨z1, z2, z3, z4⟩ := HI.out _ hmem
    generalize t[j] = x at *
    have k0 : (0 : Int) ≤ (j : Int) := by omega
    have k1 : (j : Int) < (t.length : Int) := by omega
    by_cases h5 : x.kind = 5
    · obtain ⟨m, hm, hmi, hme⟩ := isFunAt_paren HO.out g h5
      obtain ⟨b2, o2, rfl, d0⟩ := hK 0 _ hm
      have hkl : 0 < x.kids.length := (List.getElem?_eq_some_iff.1 hm).1
      have k2 : (0 : Int) < (x.kids.length : Int) := by omega
      have HJ2 : Hid (R = isFunAt t m) := Lib.hid (HJ.out.trans hme)
      simp only [Nat.add_zero] at d0
      rw [h5] at c0
      clear hme hm hK g z4
      go_wp2_with fail
      go_roundw
      case rel => exact ⟨m, rfl, by omega, HJ2, by first | trivial | rfl⟩
      case measure => simp [intOf]; first | done | omega
    · have hS := HJ.out.trans (isFunAt_other g h5)
      have HR2 := Lib.hid hR
      clear hK g z4 HJ hR
      by_cases h9 : x.kind = 9
      · rw [h9] at c0
        obtain rfl : R = true := by rw [hS]; simp [h9]
        clear hS HR2
        go_wp2_with fail
        go_ret
        exact ⟨rfl, rfl⟩
      · by_cases h14 : x.kind = 14
        · rw [h14] at c0
          obtain rfl : R = true := by rw [hS]; simp [h14]
          clear hS HR2
          go_wp2_with fail
          go_ret
          exact ⟨rfl, rfl⟩
        · by_cases h10 : x.kind = 10
          · rw [h10] at c0
            obtain rfl : R = true := by rw [hS]; simp [h10]
            clear hS HR2
            go_wp2_with fail
            go_ret
            exact ⟨rfl, rfl⟩
          · by_cases h11 : x.kind = 11
            · rw [h11] at c0
              obtain rfl : R = true := by rw [hS]; simp [h11]
              clear hS HR2
              go_wp2_with fail
              go_ret
              exact ⟨rfl, rfl⟩
            · obtain rfl : R = false := by rw [hS]; simp [h9, h14, h10, h11]
              clear hS HR2
              go_wp2_with fail
              go_ret
              exact ⟨rfl, rfl⟩
set_option maxHeartbeats 1000000 in
/-- A name's class. -/
theorem Class_any (A : Option Addr) (c : Nat) (env : List Bd) (name : ByteArray) (w : World) (hl : env.length ≤ 1000000) (hE : HoldsE w A env) :
    Calls Tryz.prog 11 #[.slice A env.length c, .string name] w fun e w' => e = .returned (.tuple #[.bool (fnOf env name), .bool (clsOf env name).isSome]) ∧ Below w.heap.size w w' := by
  have H := Lib.hid (class_any A c env name w hl hE)
  go_enter Tryz.func11, Tryz.ntmps11
  go_wp2_with fail
  refine H.out.mono ?_
  rintro e w' ⟨rfl, hb⟩
  go_wp2_with fail
  go_ret2
  exact ⟨rfl, hb⟩
set_option maxHeartbeats 2000000 in
theorem refClass_any (A : Option Addr) (c : Nat) (env : List Bd) (name : ByteArray) (w : World) (hl : env.length ≤ 1000000) (hE : HoldsE w A env) :
    Calls Tryz.prog 12 #[.slice A env.length c, .string name] w fun e w' => e = .returned (.tuple #[.bool (fnOf env name), .bool (clsOf env name).isSome]) ∧ w' = w := by
  obtain ⟨R, hR⟩ : ∃ R, R = clsOf env name := ⟨_, rfl⟩
  obtain ⟨F, hF⟩ : ∃ F, F = fnOf env name := ⟨_, rfl⟩
  rw [← hR, ← hF]
  unfold fnOf at hF
  have HE := Lib.hid hE
  have HR := Lib.hid hR
  have HF := Lib.hid hF
  clear hE hR hF
  go_enter Tryz.func12, Tryz.ntmps12
  go_wp2_with fail
  go_loopw [6] (fun s wr => ∃ (i : Nat), s = .int .i64 ((env.length : Int) - 1 - i) ∧ i ≤ env.length ∧ Hid (∀ j, j < i → ∀ y, env[env.length - 1 - j]? = some y → y.name ≠ name) ∧ wr = w) (fun s _ => (intOf s + 1).toNat)
  case atStart => exact ⟨0, by simp, Nat.zero_le _, Lib.hid (fun j hj => by omega), by first | trivial | rfl⟩
  case round =>
    obtain ⟨i, rfl, hi, HJ, rfl⟩ := hrel
    by_cases hlt : i < env.length
    · have g := List.getElem?_eq_getElem (l := env) (i := env.length - 1 - i) (by omega)
      generalize env[env.length - 1 - i]'(by omega) = x at *
      obtain ⟨b, off, rfl, d0, d1⟩ := HE.out _ x g
      have hidx : (env.length : Int) - 1 - (i : Int) = ((env.length - 1 - i : Nat) : Int) := by omega
      have k0 : (0 : Int) ≤ ((env.length - 1 - i : Nat) : Int) := by omega
      have k1 : ((env.length - 1 - i : Nat) : Int) < (env.length : Int) := by omega
      have k2 : env.length - 1 - i < env.length := by omega
      have hstep : ((env.length - 1 - i : Nat) : Int) - 1 = (env.length : Int) - 1 - ((i + 1 : Nat) : Int) := by omega
      have HSt := Lib.hid hstep
      rw [hidx]
      by_cases hn : x.name = name
      · have q := bytes_beq_yes hn
        have e1 := HR.out.trans (clsOf_at hlt g HJ.out hn)
        obtain rfl : R = some x.fn := e1
        have e2 := HF.out
        rw [← HR.out] at e2
        obtain rfl : F = x.fn := e2
        obtain ⟨m, hm⟩ : ∃ m, m = env.length - 1 - i := ⟨_, rfl⟩
        rw [← hm] at d0 d1 k0 k1 k2 ⊢
        clear hn g hstep hidx HSt hm
        go_wp2_with fail
        go_ret2
        exact ⟨rfl, rfl⟩
      · have q := bytes_beq_no hn
        have HN := Lib.hid (show ∀ j, j < i + 1 → ∀ y, env[env.length - 1 - j]? = some y → y.name ≠ name from fun j hj y hy => by
          by_cases h1 : j < i
          · exact HJ.out j h1 y hy
          · obtain rfl : j = i := by omega
            rw [g] at hy
            cases hy
            exact hn)
        obtain ⟨m, hm⟩ : ∃ m, m = env.length - 1 - i := ⟨_, rfl⟩
        rw [← hm] at d0 d1 k0 k1 k2 HSt ⊢
        have HM := Lib.hid hm
        clear hn g hstep hidx hm
        go_wp2_with fail
        go_roundw
        case rel => exact ⟨i + 1, by rw [← HSt.out], by omega, HN, by first | trivial | rfl⟩
        case measure => have h1 := HM.out; have h2 := HSt.out; simp [intOf]; first | done | omega
    · obtain rfl : i = env.length := by omega
      have k0 : (env.length : Int) - 1 - (env.length : Int) = -1 := by omega
      rw [k0]
      have e1 := HR.out.trans (clsOf_none HJ.out)
      obtain rfl : R = none := e1
      have e2 := HF.out
      rw [← HR.out] at e2
      obtain rfl : F = false := e2
      clear HJ
      go_wp2_with fail
      go_ret2
      exact ⟨rfl, rfl⟩
set_option maxHeartbeats 4000000 in
theorem refIsFun_any (t : List Nd) (hok : nodesOk 0 t = true) (hI : IntN t) (hl : t.length ≤ 400) (A : Option Addr) (c : Nat) (w : World) (hh : HoldsN w A t) : ∀ (n i : Nat), i < n → i < t.length →
    Calls Tryz.prog 29 #[.slice A t.length c, .int .i64 i] w fun e w' => e = .returned (.bool (isFunAt t i)) ∧ w' = w
  | 0, i, h, _ => by omega
  | n + 1, i, hin, hi => by
    have ih := Lib.hid (refIsFun_any t hok hI hl A c w hh n)
    obtain ⟨R, hR⟩ : ∃ R, R = isFunAt t i := ⟨_, rfl⟩
    rw [← hR]
    have g := List.getElem?_eq_getElem hi
    have hmem := List.getElem_mem hi
    obtain ⟨b, off, rfl, c0, c1, B, c2, c3, hK, hc⟩ := hh i _ g
    obtain ⟨z1, z2, z3, z4⟩ := hI _ hmem
    generalize t[i] = x at *
    have k0 : (0 : Int) ≤ (i : Int) := by omega
    have k1 : (i : Int) < (t.length : Int) := by omega
    by_cases h5 : x.kind = 5
    · obtain ⟨m, hm, hmi, hme⟩ := isFunAt_paren hok g h5
      obtain ⟨b2, o2, rfl, d0⟩ := hK 0 _ hm
      have hkl : 0 < x.kids.length := (List.getElem?_eq_some_iff.1 hm).1
      have k2 : (0 : Int) < (x.kids.length : Int) := by omega
      have H := Lib.hid (ih.out m (by omega) (by omega))
      rw [← hme, ← hR] at H
      simp only [Nat.add_zero] at d0
      rw [h5] at c0
      clear hme hm hK g z4 hok hI hh hR ih
      go_enter Tryz.func29, Tryz.ntmps29
      go_wp2_with fail
      refine H.out.mono ?_
      rintro e w' ⟨rfl, rfl⟩
      go_wp2_with fail
      go_ret
      exact ⟨rfl, rfl⟩
    · have hS := hR.trans (isFunAt_other g h5)
      clear hK g z4 hok hI hh hR ih
      by_cases h9 : x.kind = 9
      · rw [h9] at c0
        obtain rfl : R = true := by rw [hS]; simp [h9]
        clear hS
        go_enter Tryz.func29, Tryz.ntmps29
        go_wp2_with fail
        go_ret
        exact ⟨rfl, rfl⟩
      · by_cases h14 : x.kind = 14
        · rw [h14] at c0
          obtain rfl : R = true := by rw [hS]; simp [h14]
          clear hS
          go_enter Tryz.func29, Tryz.ntmps29
          go_wp2_with fail
          go_ret
          exact ⟨rfl, rfl⟩
        · by_cases h10 : x.kind = 10
          · rw [h10] at c0
            obtain rfl : R = true := by rw [hS]; simp [h10]
            clear hS
            go_enter Tryz.func29, Tryz.ntmps29
            go_wp2_with fail
            go_ret
            exact ⟨rfl, rfl⟩
          · by_cases h11 : x.kind = 11
            · rw [h11] at c0
              obtain rfl : R = true := by rw [hS]; simp [h11]
              clear hS
              go_enter Tryz.func29, Tryz.ntmps29
              go_wp2_with fail
              go_ret
              exact ⟨rfl, rfl⟩
            · obtain rfl : R = false := by rw [hS]; simp [h9, h14, h10, h11]
              clear hS
              go_enter Tryz.func29, Tryz.ntmps29
              go_wp2_with fail
              go_ret
              exact ⟨rfl, rfl⟩
theorem binds_row {w w2 : World} (a b : Value) (h : w2.heap[w.heap.size]? = some (.cells #[.string noB, .bool false] 30 (0, 0))) (hb : Below w.heap.size w w2) :
    ((w2.setCell ⟨w.heap.size, 0, none⟩ a).setCell ⟨w.heap.size, 1, none⟩ b).cell? ⟨w.heap.size, 0, none⟩ = some a ∧ ((w2.setCell ⟨w.heap.size, 0, none⟩ a).setCell ⟨w.heap.size, 1, none⟩ b).cell? ⟨w.heap.size, 1, none⟩ = some b ∧ Below w.heap.size w ((w2.setCell ⟨w.heap.size, 0, none⟩ a).setCell ⟨w.heap.size, 1, none⟩ b) := by
  have h1 : (w2.setCell ⟨w.heap.size, 0, none⟩ a).heap[w.heap.size]? = some (.cells #[a, .bool false] 30 (0, 0)) := by
    rw [heap_setCell_same w2 w.heap.size 0 _ _ _ h]
    simp
  have h2 : ((w2.setCell ⟨w.heap.size, 0, none⟩ a).setCell ⟨w.heap.size, 1, none⟩ b).heap[w.heap.size]? = some (.cells #[a, b] 30 (0, 0)) := by
    rw [heap_setCell_same _ w.heap.size 1 _ _ _ h1]
    simp
  exact ⟨by simp [World.cell?, h2], by simp [World.cell?, h2], (hb.setCell (p := ⟨w.heap.size, 0, none⟩) (Nat.le_refl _) a).setCell (p := ⟨w.heap.size, 1, none⟩) (Nat.le_refl _) b⟩
set_option maxHeartbeats 4000000 in
theorem binds_any (t : List Nd) (hI : IntN t) (A : Option Addr) (c : Nat) (w : World) (hh : HoldsN w A t) :
    Calls Tryz.prog 13 #[.slice A t.length c] w fun e w' => e = .returned (.tuple #[.agg #[.string ((bindsN t).getD ⟨noB, false⟩).name, .bool ((bindsN t).getD ⟨noB, false⟩).fn], .bool (bindsN t).isSome]) ∧ Below w.heap.size w w' := by
  have HR := Lib.hid (fun W (h : HoldsN W A t) => Nz.right_any t A c W h hI)
  have HH := Lib.hid hh
  cases hr : rightN t with
  | false =>
    have hB : bindsN t = none := by unfold bindsN; rw [if_neg (by rw [hr]; decide)]
    rw [hB]
    rw [hr] at HR
    clear hh hI hr hB
    go_enter Tryz.func13, Tryz.ntmps13
    go_wp2_with fail
    refine (HR.out _ (HH.out.below (below_new w _))).mono ?_
    rintro e w2 ⟨rfl, hb⟩
    have hrow : w2.heap[w.heap.size]? = some (.cells #[.string noB, .bool false] 30 (0, 0)) := (hb.block _ (by simp)).trans (heap_alloc_new w _)
    have HB := Lib.hid ((below_new w _).trans (hb.mono (by simp)))
    have HE := Lib.hid (binds_row (.string ⟨#[]⟩) (.bool false) hrow HB.out)
    have z0 : ∀ j, w2.frozen? ⟨w.heap.size, j, none⟩ = false := fun j => frozen_of_row w2 _ j _ _ hrow
    have x0 : w2.cell? ⟨w.heap.size, 0, none⟩ = some (.string noB) := by simp [World.cell?, hrow]
    have x1 : w2.cell? ⟨w.heap.size, 1, none⟩ = some (.bool false) := by simp [World.cell?, hrow]
    clear hb hrow
    go_wp2_with fail
    obtain ⟨y0, y1, hB9⟩ := HE.out
    exact bodyPost_ret (v := .tuple #[.agg #[.string ⟨#[]⟩, .bool false], .bool false]) (by simp [results, Tryz.results13, go_sem, y0, y1]) rfl ⟨rfl, hB9⟩
  | true =>
    obtain ⟨r1, r2, hok, _⟩ := rightN_parts hr
    obtain ⟨n, hn⟩ : ∃ n, n = t.length - 1 := ⟨_, rfl⟩
    have hn2 : (t.length : Int) - 1 = (n : Int) := by omega
    have hnl : n < t.length := by omega
    have k0 : (0 : Int) ≤ (n : Int) := by omega
    have k1 : (n : Int) < (t.length : Int) := by omega
    have g := List.getElem?_eq_getElem hnl
    have hmem := List.getElem_mem hnl
    have hform := (nodesOk_at hok g).2
    obtain ⟨z1, z2, z3, z4⟩ := hI _ hmem
    have hB : bindsN t = (if (t[n]).kind = 8 then some ⟨(t[n]).text, isFunF t t.length ((t[n]).kids.getD 0 0)⟩ else none) := by
      unfold bindsN
      rw [if_pos hr, ← hn]
      simp only [nodeAt_some g]
    have hkid : ∀ k ∈ (t[n]).kids, 0 ≤ k ∧ k < (n : Int) := fun k hk => nodes_kid hok hnl (by rw [nodeAt_some g]; exact hk)
    rw [hr] at HR
    by_cases h8 : (t[n]).kind = 8
    · have hne : 1 ≤ (t[n]).kids.length := by
        unfold formOk at hform
        rw [h8] at hform
        simp [Nz.formAt] at hform
        omega
      have g0 := List.getElem?_eq_getElem (l := (t[n]).kids) (i := 0) (by omega)
      have hm0 : (t[n]).kids[0] ∈ (t[n]).kids := List.getElem_mem _
      have hr0 := hkid _ hm0
      obtain ⟨m, hm⟩ : ∃ m : Nat, (m : Int) = (t[n]).kids[0] := ⟨((t[n]).kids[0]).toNat, by omega⟩
      have hB2 : bindsN t = some ⟨(t[n]).text, isFunAt t m⟩ := by
        rw [hB, if_pos h8, Nz.getD_lt (by omega), ← hm, isFunF_more hok t.length t.length m (by omega) (by omega) (by omega)]
      rw [hB2]
      rw [← hm] at g0
      have HF := Lib.hid (fun W (h : HoldsN W A t) => isFun_any t hok hI r2 A c W h m (by omega))
      have HX := Lib.hid g
      have HK0 := Lib.hid g0
      have hsz : 0 < (t[n]).kids.length := by omega
      clear hh hI hr hB hB2 hkid hform z4 hm0 hr0 hm g0 hmem hn
      generalize t[n] = x at *
      have k2 : (0 : Int) < (x.kids.length : Int) := by omega
      go_enter Tryz.func13, Tryz.ntmps13
      go_wp2_with fail
      refine (HR.out _ (HH.out.below (below_new w _))).mono ?_
      rintro e w2 ⟨rfl, hb⟩
      have hrow : w2.heap[w.heap.size]? = some (.cells #[.string noB, .bool false] 30 (0, 0)) := (hb.block _ (by simp)).trans (heap_alloc_new w _)
      have HB := Lib.hid ((below_new w _).trans (hb.mono (by simp)))
      obtain ⟨b, off, rfl, c0, c1, B, c2, c3, hK, hc⟩ := (HH.out.below HB.out) n x HX.out
      obtain ⟨b2, o2, rfl, d0⟩ := hK 0 _ HK0.out
      simp only [Nat.add_zero] at d0
      have l0 := cell_lt c0
      have l1 := cell_lt d0
      simp only at l0 l1
      have hrowL : w.heap.size < w2.heap.size := by have := hb.size; simp at this; omega
      have z0 : ∀ j, w2.frozen? ⟨w.heap.size, j, none⟩ = false := fun j => frozen_of_row w2 _ j _ _ hrow
      have x0 : w2.cell? ⟨w.heap.size, 0, none⟩ = some (.string noB) := by simp [World.cell?, hrow]
      have x1 : w2.cell? ⟨w.heap.size, 1, none⟩ = some (.bool false) := by simp [World.cell?, hrow]
      have HRow := Lib.hid hrow
      clear hb hrow hK
      rw [h8] at c0
      go_wp2_with fail
      have hnew := heap_alloc_new w2 (.cells #[.int .i64 8, .string x.text, .slice (some ⟨b2, o2, none⟩) x.kids.length c2] 49)
      have hbn := below_new w2 (.cells #[.int .i64 8, .string x.text, .slice (some ⟨b2, o2, none⟩) x.kids.length c2] 49)
      have HN3 := Lib.hid ((HH.out.below HB.out).below hbn)
      have hrow3 : (w2.alloc (.cells #[.int .i64 8, .string x.text, .slice (some ⟨b2, o2, none⟩) x.kids.length c2] 49)).heap[w.heap.size]? = some (.cells #[.string noB, .bool false] 30 (0, 0)) := (hbn.block _ hrowL).trans HRow.out
      have hB3 : Below w.heap.size w (w2.alloc (.cells #[.int .i64 8, .string x.text, .slice (some ⟨b2, o2, none⟩) x.kids.length c2] 49)) := HB.out.trans (hbn.mono (by omega))
      have hd3 := (hbn.cell (p := ⟨b2, o2, none⟩) (by simpa using l1)).trans d0
      have hd4 : b2 ≠ w.heap.size := by
        intro e
        subst e
        rw [World.cell?, HRow.out] at d0
        rcases o2 with _ | _ | o2 <;> simp at d0
      generalize hW : w2.alloc (.cells #[.int .i64 8, .string x.text, .slice (some ⟨b2, o2, none⟩) x.kids.length c2] 49) = W3 at *
      have HE := Lib.hid (binds_row (.string x.text) (.bool (isFunAt t m)) hrow3 hB3)
      have z3 : ∀ j, W3.frozen? ⟨w.heap.size, j, none⟩ = false := fun j => frozen_of_row W3 _ j _ _ hrow3
      have x3 : W3.cell? ⟨w.heap.size, 0, none⟩ = some (.string noB) := by simp [World.cell?, hrow3]
      have x4 : W3.cell? ⟨w.heap.size, 1, none⟩ = some (.bool false) := by simp [World.cell?, hrow3]
      have y1 : W3.cell? ⟨w2.heap.size, 1, none⟩ = some (.string x.text) := by simp [World.cell?, hnew]
      have y2 : W3.cell? ⟨w2.heap.size, 2, none⟩ = some (.slice (some ⟨b2, o2, none⟩) x.kids.length c2) := by simp [World.cell?, hnew]
      have ho : ∀ (a0 b0 : Value) (k : Nat), k ≠ w.heap.size → ((W3.setCell ⟨w.heap.size, 0, none⟩ a0).setCell ⟨w.heap.size, 1, none⟩ b0).heap[k]? = W3.heap[k]? := fun a0 b0 k hk => (heap_setCell_other _ ⟨w.heap.size, 1, none⟩ _ _ hk).trans (heap_setCell_other _ ⟨w.heap.size, 0, none⟩ _ _ hk)
      have hne2 : w2.heap.size ≠ w.heap.size := by omega
      have y5 : ∀ a0 b0, ((W3.setCell ⟨w.heap.size, 0, none⟩ a0).setCell ⟨w.heap.size, 1, none⟩ b0).cell? ⟨w2.heap.size, 1, none⟩ = some (.string x.text) := fun a0 b0 => by rw [← y1]; simp only [World.cell?, ho a0 b0 _ hne2]
      have y6 : ∀ a0 b0, ((W3.setCell ⟨w.heap.size, 0, none⟩ a0).setCell ⟨w.heap.size, 1, none⟩ b0).cell? ⟨w2.heap.size, 2, none⟩ = some (.slice (some ⟨b2, o2, none⟩) x.kids.length c2) := fun a0 b0 => by rw [← y2]; simp only [World.cell?, ho a0 b0 _ hne2]
      have y7 : ∀ a0 b0, ((W3.setCell ⟨w.heap.size, 0, none⟩ a0).setCell ⟨w.heap.size, 1, none⟩ b0).cell? ⟨b2, o2, none⟩ = some (.int .i64 m) := fun a0 b0 => by rw [← hd3]; simp only [World.cell?, ho a0 b0 _ hd4]
      have H5 := Lib.hid y5
      have H6 := Lib.hid y6
      have H7 := Lib.hid y7
      clear ho y5 y6 y7 hbn hW hnew
      refine wp_region_ord (S := fun w' => w'.cell? ⟨w2.heap.size, 1, none⟩ = some (.string x.text) ∧ w'.cell? ⟨w2.heap.size, 2, none⟩ = some (.slice (some ⟨b2, o2, none⟩) x.kids.length c2) ∧ w'.cell? ⟨b2, o2, none⟩ = some (.int .i64 m)) [0, 1, 2, 3, 4, 5, 6] [7, 8, 9, 10] (by kernel_rfl) (by kernel_rfl) (fun _ _ _ _ _ h => h) ⟨y1, y2, hd3⟩ ?_
      simp only [pick, List.filterMap_cons, List.filterMap_nil, List.getElem?_toArray, List.getElem?_cons_zero, List.getElem?_cons_succ]
      repeat (refine wpHead_step (v := ?_) rfl ?_ ?_; rotate_left; (focus (rintro w1 ⟨s1, s2, s3⟩; go_simp; try with_reducible rfl)); simp only [Act.put, List.setIfInBounds_toArray, List.set_cons_zero, List.set_cons_succ])
      refine wpHead_nil ?_
      refine wpTail_step rfl (fun K hK => ?_)
      go_wp2_with fail
      refine (HF.out W3.drew HN3.out).mono ?_
      rintro e w' ⟨rfl, rfl⟩
      refine hK _ _ ⟨y1, y2, hd3⟩ ?_
      clear hK K
      try simp only [Act.put, List.setIfInBounds_toArray, List.set_cons_zero, List.set_cons_succ]
      refine wpTail_step rfl (fun K hK => ?_)
      go_wp2_with fail
      refine hK _ _ ⟨y1, y2, hd3⟩ ?_
      clear hK K
      try simp only [Act.put, List.setIfInBounds_toArray, List.set_cons_zero, List.set_cons_succ]
      refine wpTail_step rfl (fun K hK => ?_)
      go_wp2_with fail
      refine hK _ _ ⟨H5.out _ _, H6.out _ _, H7.out _ _⟩ ?_
      clear hK K
      try simp only [Act.put, List.setIfInBounds_toArray, List.set_cons_zero, List.set_cons_succ]
      refine wpTail_step rfl (fun K hK => ?_)
      go_wp2_with fail
      refine hK _ _ ⟨H5.out _ _, H6.out _ _, H7.out _ _⟩ ?_
      clear hK K
      try simp only [Act.put, List.setIfInBounds_toArray, List.set_cons_zero, List.set_cons_succ]
      refine wpTail_nil ?_
      go_wp2_with fail
      obtain ⟨q0, q1, hB9⟩ := HE.out
      exact bodyPost_ret (v := .tuple #[.agg #[.string x.text, .bool (isFunAt t m)], .bool true]) (by simp [results, Tryz.results13, go_sem, q0, q1]) rfl ⟨rfl, hB9.drew⟩
    · have hB2 : bindsN t = none := by rw [hB, if_neg h8]
      rw [hB2]
      have HX := Lib.hid g
      clear hh hI hr hB hB2 hkid hform z4 hmem g hn
      generalize t[n] = x at *
      go_enter Tryz.func13, Tryz.ntmps13
      go_wp2_with fail
      refine (HR.out _ (HH.out.below (below_new w _))).mono ?_
      rintro e w2 ⟨rfl, hb⟩
      have hrow : w2.heap[w.heap.size]? = some (.cells #[.string noB, .bool false] 30 (0, 0)) := (hb.block _ (by simp)).trans (heap_alloc_new w _)
      have HB := Lib.hid ((below_new w _).trans (hb.mono (by simp)))
      obtain ⟨b, off, rfl, c0, c1, B, c2, c3, hK, hc⟩ := (HH.out.below HB.out) n x HX.out
      have l0 := cell_lt c0
      simp only at l0
      have hrowL : w.heap.size < w2.heap.size := by have := hb.size; simp at this; omega
      have z0 : ∀ j, w2.frozen? ⟨w.heap.size, j, none⟩ = false := fun j => frozen_of_row w2 _ j _ _ hrow
      have x0 : w2.cell? ⟨w.heap.size, 0, none⟩ = some (.string noB) := by simp [World.cell?, hrow]
      have x1 : w2.cell? ⟨w.heap.size, 1, none⟩ = some (.bool false) := by simp [World.cell?, hrow]
      have HE := Lib.hid (binds_row (.string ⟨#[]⟩) (.bool false) hrow HB.out)
      have HBn := Lib.hid (fun W => below_new W (.cells #[.int .i64 x.kind, .string x.text, .slice B x.kids.length c2] 49))
      have HRow := Lib.hid hrow
      clear hb hrow hK
      go_wp2_with fail
      obtain ⟨y0, y1, hB9⟩ := HE.out
      have hsz9 := hB9.size
      have hb9 := HBn.out ((w2.setCell ⟨w.heap.size, 0, none⟩ (.string ⟨#[]⟩)).setCell ⟨w.heap.size, 1, none⟩ (.bool false))
      have y2 := (hb9.cell (p := ⟨w.heap.size, 0, none⟩) (cell_lt y0)).trans y0
      have y3 := (hb9.cell (p := ⟨w.heap.size, 1, none⟩) (cell_lt y1)).trans y1
      first
        | exact bodyPost_ret (v := .tuple #[.agg #[.string ⟨#[]⟩, .bool false], .bool false]) (by simp [results, Tryz.results13, go_sem, y2, y3]) rfl ⟨rfl, hB9.trans (hb9.mono hsz9)⟩
        | exact bodyPost_ret (v := .tuple #[.agg #[.string ⟨#[]⟩, .bool false], .bool false]) (by simp [results, Tryz.results13, go_sem, y0, y1]) rfl ⟨rfl, hB9⟩
set_option maxHeartbeats 4000000 in
theorem refBinds_any (t : List Nd) (hI : IntN t) (A : Option Addr) (c : Nat) (w : World) (hh : HoldsN w A t) :
    Calls Tryz.prog 14 #[.slice A t.length c] w fun e w' => e = .returned (.tuple #[.agg #[.string ((bindsN t).getD ⟨noB, false⟩).name, .bool ((bindsN t).getD ⟨noB, false⟩).fn], .bool (bindsN t).isSome]) ∧ Below w.heap.size w w' := by
  have HR := Lib.hid (fun W (h : HoldsN W A t) => Nz.refRight_any t A c W h hI)
  have HH := Lib.hid hh
  cases hr : rightN t with
  | false =>
    have hB : bindsN t = none := by unfold bindsN; rw [if_neg (by rw [hr]; decide)]
    rw [hB]
    rw [hr] at HR
    clear hh hI hr hB
    go_enter Tryz.func14, Tryz.ntmps14
    go_wp2_with fail
    refine (HR.out _ (HH.out.below (below_new w _))).mono ?_
    rintro e w2 ⟨rfl, hb⟩
    have hrow : w2.heap[w.heap.size]? = some (.cells #[.string noB, .bool false] 30 (0, 0)) := (hb.block _ (by simp)).trans (heap_alloc_new w _)
    have HB := Lib.hid ((below_new w _).trans (hb.mono (by simp)))
    have HE := Lib.hid (binds_row (.string ⟨#[]⟩) (.bool false) hrow HB.out)
    have z0 : ∀ j, w2.frozen? ⟨w.heap.size, j, none⟩ = false := fun j => frozen_of_row w2 _ j _ _ hrow
    have x0 : w2.cell? ⟨w.heap.size, 0, none⟩ = some (.string noB) := by simp [World.cell?, hrow]
    have x1 : w2.cell? ⟨w.heap.size, 1, none⟩ = some (.bool false) := by simp [World.cell?, hrow]
    clear hb hrow
    go_wp2_with fail
    obtain ⟨y0, y1, hB9⟩ := HE.out
    exact bodyPost_ret (v := .tuple #[.agg #[.string ⟨#[]⟩, .bool false], .bool false]) (by simp [results, Tryz.results14, go_sem, y0, y1]) rfl ⟨rfl, hB9⟩
  | true =>
    obtain ⟨r1, r2, hok, _⟩ := rightN_parts hr
    obtain ⟨n, hn⟩ : ∃ n, n = t.length - 1 := ⟨_, rfl⟩
    have hn2 : (t.length : Int) - 1 = (n : Int) := by omega
    have hnl : n < t.length := by omega
    have k0 : (0 : Int) ≤ (n : Int) := by omega
    have k1 : (n : Int) < (t.length : Int) := by omega
    have g := List.getElem?_eq_getElem hnl
    have hmem := List.getElem_mem hnl
    have hform := (nodesOk_at hok g).2
    obtain ⟨z1, z2, z3, z4⟩ := hI _ hmem
    have hB : bindsN t = (if (t[n]).kind = 8 then some ⟨(t[n]).text, isFunF t t.length ((t[n]).kids.getD 0 0)⟩ else none) := by
      unfold bindsN
      rw [if_pos hr, ← hn]
      simp only [nodeAt_some g]
    have hkid : ∀ k ∈ (t[n]).kids, 0 ≤ k ∧ k < (n : Int) := fun k hk => nodes_kid hok hnl (by rw [nodeAt_some g]; exact hk)
    rw [hr] at HR
    by_cases h8 : (t[n]).kind = 8
    · have hne : 1 ≤ (t[n]).kids.length := by
        unfold formOk at hform
        rw [h8] at hform
        simp [Nz.formAt] at hform
        omega
      have g0 := List.getElem?_eq_getElem (l := (t[n]).kids) (i := 0) (by omega)
      have hm0 : (t[n]).kids[0] ∈ (t[n]).kids := List.getElem_mem _
      have hr0 := hkid _ hm0
      obtain ⟨m, hm⟩ : ∃ m : Nat, (m : Int) = (t[n]).kids[0] := ⟨((t[n]).kids[0]).toNat, by omega⟩
      have hB2 : bindsN t = some ⟨(t[n]).text, isFunAt t m⟩ := by
        rw [hB, if_pos h8, Nz.getD_lt (by omega), ← hm, isFunF_more hok t.length t.length m (by omega) (by omega) (by omega)]
      rw [hB2]
      rw [← hm] at g0
      have HF := Lib.hid (fun W (h : HoldsN W A t) => refIsFun_any t hok hI r2 A c W h t.length m (by omega) (by omega))
      have HX := Lib.hid g
      have HK0 := Lib.hid g0
      have hsz : 0 < (t[n]).kids.length := by omega
      clear hh hI hr hB hB2 hkid hform z4 hm0 hr0 hm g0 hmem hn
      generalize t[n] = x at *
      have k2 : (0 : Int) < (x.kids.length : Int) := by omega
      go_enter Tryz.func14, Tryz.ntmps14
      go_wp2_with fail
      refine (HR.out _ (HH.out.below (below_new w _))).mono ?_
      rintro e w2 ⟨rfl, hb⟩
      have hrow : w2.heap[w.heap.size]? = some (.cells #[.string noB, .bool false] 30 (0, 0)) := (hb.block _ (by simp)).trans (heap_alloc_new w _)
      have HB := Lib.hid ((below_new w _).trans (hb.mono (by simp)))
      obtain ⟨b, off, rfl, c0, c1, B, c2, c3, hK, hc⟩ := (HH.out.below HB.out) n x HX.out
      obtain ⟨b2, o2, rfl, d0⟩ := hK 0 _ HK0.out
      simp only [Nat.add_zero] at d0
      have l0 := cell_lt c0
      have l1 := cell_lt d0
      simp only at l0 l1
      have hrowL : w.heap.size < w2.heap.size := by have := hb.size; simp at this; omega
      have z0 : ∀ j, w2.frozen? ⟨w.heap.size, j, none⟩ = false := fun j => frozen_of_row w2 _ j _ _ hrow
      have x0 : w2.cell? ⟨w.heap.size, 0, none⟩ = some (.string noB) := by simp [World.cell?, hrow]
      have x1 : w2.cell? ⟨w.heap.size, 1, none⟩ = some (.bool false) := by simp [World.cell?, hrow]
      have HRow := Lib.hid hrow
      clear hb hrow hK
      rw [h8] at c0
      go_wp2_with fail
      have hnew := heap_alloc_new w2 (.cells #[.int .i64 8, .string x.text, .slice (some ⟨b2, o2, none⟩) x.kids.length c2] 49)
      have hbn := below_new w2 (.cells #[.int .i64 8, .string x.text, .slice (some ⟨b2, o2, none⟩) x.kids.length c2] 49)
      have HN3 := Lib.hid ((HH.out.below HB.out).below hbn)
      have hrow3 : (w2.alloc (.cells #[.int .i64 8, .string x.text, .slice (some ⟨b2, o2, none⟩) x.kids.length c2] 49)).heap[w.heap.size]? = some (.cells #[.string noB, .bool false] 30 (0, 0)) := (hbn.block _ hrowL).trans HRow.out
      have hB3 : Below w.heap.size w (w2.alloc (.cells #[.int .i64 8, .string x.text, .slice (some ⟨b2, o2, none⟩) x.kids.length c2] 49)) := HB.out.trans (hbn.mono (by omega))
      have hd3 := (hbn.cell (p := ⟨b2, o2, none⟩) (by simpa using l1)).trans d0
      have hd4 : b2 ≠ w.heap.size := by
        intro e
        subst e
        rw [World.cell?, HRow.out] at d0
        rcases o2 with _ | _ | o2 <;> simp at d0
      generalize hW : w2.alloc (.cells #[.int .i64 8, .string x.text, .slice (some ⟨b2, o2, none⟩) x.kids.length c2] 49) = W3 at *
      have HE := Lib.hid (binds_row (.string x.text) (.bool (isFunAt t m)) hrow3 hB3)
      have z3 : ∀ j, W3.frozen? ⟨w.heap.size, j, none⟩ = false := fun j => frozen_of_row W3 _ j _ _ hrow3
      have x3 : W3.cell? ⟨w.heap.size, 0, none⟩ = some (.string noB) := by simp [World.cell?, hrow3]
      have x4 : W3.cell? ⟨w.heap.size, 1, none⟩ = some (.bool false) := by simp [World.cell?, hrow3]
      have y1 : W3.cell? ⟨w2.heap.size, 1, none⟩ = some (.string x.text) := by simp [World.cell?, hnew]
      have y2 : W3.cell? ⟨w2.heap.size, 2, none⟩ = some (.slice (some ⟨b2, o2, none⟩) x.kids.length c2) := by simp [World.cell?, hnew]
      have ho : ∀ (a0 b0 : Value) (k : Nat), k ≠ w.heap.size → ((W3.setCell ⟨w.heap.size, 0, none⟩ a0).setCell ⟨w.heap.size, 1, none⟩ b0).heap[k]? = W3.heap[k]? := fun a0 b0 k hk => (heap_setCell_other _ ⟨w.heap.size, 1, none⟩ _ _ hk).trans (heap_setCell_other _ ⟨w.heap.size, 0, none⟩ _ _ hk)
      have hne2 : w2.heap.size ≠ w.heap.size := by omega
      have y5 : ∀ a0 b0, ((W3.setCell ⟨w.heap.size, 0, none⟩ a0).setCell ⟨w.heap.size, 1, none⟩ b0).cell? ⟨w2.heap.size, 1, none⟩ = some (.string x.text) := fun a0 b0 => by rw [← y1]; simp only [World.cell?, ho a0 b0 _ hne2]
      have y6 : ∀ a0 b0, ((W3.setCell ⟨w.heap.size, 0, none⟩ a0).setCell ⟨w.heap.size, 1, none⟩ b0).cell? ⟨w2.heap.size, 2, none⟩ = some (.slice (some ⟨b2, o2, none⟩) x.kids.length c2) := fun a0 b0 => by rw [← y2]; simp only [World.cell?, ho a0 b0 _ hne2]
      have y7 : ∀ a0 b0, ((W3.setCell ⟨w.heap.size, 0, none⟩ a0).setCell ⟨w.heap.size, 1, none⟩ b0).cell? ⟨b2, o2, none⟩ = some (.int .i64 m) := fun a0 b0 => by rw [← hd3]; simp only [World.cell?, ho a0 b0 _ hd4]
      have H5 := Lib.hid y5
      have H6 := Lib.hid y6
      have H7 := Lib.hid y7
      clear ho y5 y6 y7 hbn hW hnew
      refine wp_region_ord (S := fun w' => w'.cell? ⟨w2.heap.size, 1, none⟩ = some (.string x.text) ∧ w'.cell? ⟨w2.heap.size, 2, none⟩ = some (.slice (some ⟨b2, o2, none⟩) x.kids.length c2) ∧ w'.cell? ⟨b2, o2, none⟩ = some (.int .i64 m)) [0, 1, 2, 3, 4, 5, 6] [7, 8, 9, 10] (by kernel_rfl) (by kernel_rfl) (fun _ _ _ _ _ h => h) ⟨y1, y2, hd3⟩ ?_
      simp only [pick, List.filterMap_cons, List.filterMap_nil, List.getElem?_toArray, List.getElem?_cons_zero, List.getElem?_cons_succ]
      repeat (refine wpHead_step (v := ?_) rfl ?_ ?_; rotate_left; (focus (rintro w1 ⟨s1, s2, s3⟩; go_simp; try with_reducible rfl)); simp only [Act.put, List.setIfInBounds_toArray, List.set_cons_zero, List.set_cons_succ])
      refine wpHead_nil ?_
      refine wpTail_step rfl (fun K hK => ?_)
      go_wp2_with fail
      refine (HF.out W3.drew HN3.out).mono ?_
      rintro e w' ⟨rfl, rfl⟩
      refine hK _ _ ⟨y1, y2, hd3⟩ ?_
      clear hK K
      try simp only [Act.put, List.setIfInBounds_toArray, List.set_cons_zero, List.set_cons_succ]
      refine wpTail_step rfl (fun K hK => ?_)
      go_wp2_with fail
      refine hK _ _ ⟨y1, y2, hd3⟩ ?_
      clear hK K
      try simp only [Act.put, List.setIfInBounds_toArray, List.set_cons_zero, List.set_cons_succ]
      refine wpTail_step rfl (fun K hK => ?_)
      go_wp2_with fail
      refine hK _ _ ⟨H5.out _ _, H6.out _ _, H7.out _ _⟩ ?_
      clear hK K
      try simp only [Act.put, List.setIfInBounds_toArray, List.set_cons_zero, List.set_cons_succ]
      refine wpTail_step rfl (fun K hK => ?_)
      go_wp2_with fail
      refine hK _ _ ⟨H5.out _ _, H6.out _ _, H7.out _ _⟩ ?_
      clear hK K
      try simp only [Act.put, List.setIfInBounds_toArray, List.set_cons_zero, List.set_cons_succ]
      refine wpTail_nil ?_
      go_wp2_with fail
      obtain ⟨q0, q1, hB9⟩ := HE.out
      exact bodyPost_ret (v := .tuple #[.agg #[.string x.text, .bool (isFunAt t m)], .bool true]) (by simp [results, Tryz.results14, go_sem, q0, q1]) rfl ⟨rfl, hB9.drew⟩
    · have hB2 : bindsN t = none := by rw [hB, if_neg h8]
      rw [hB2]
      have HX := Lib.hid g
      clear hh hI hr hB hB2 hkid hform z4 hmem g hn
      generalize t[n] = x at *
      go_enter Tryz.func14, Tryz.ntmps14
      go_wp2_with fail
      refine (HR.out _ (HH.out.below (below_new w _))).mono ?_
      rintro e w2 ⟨rfl, hb⟩
      have hrow : w2.heap[w.heap.size]? = some (.cells #[.string noB, .bool false] 30 (0, 0)) := (hb.block _ (by simp)).trans (heap_alloc_new w _)
      have HB := Lib.hid ((below_new w _).trans (hb.mono (by simp)))
      obtain ⟨b, off, rfl, c0, c1, B, c2, c3, hK, hc⟩ := (HH.out.below HB.out) n x HX.out
      have l0 := cell_lt c0
      simp only at l0
      have hrowL : w.heap.size < w2.heap.size := by have := hb.size; simp at this; omega
      have z0 : ∀ j, w2.frozen? ⟨w.heap.size, j, none⟩ = false := fun j => frozen_of_row w2 _ j _ _ hrow
      have x0 : w2.cell? ⟨w.heap.size, 0, none⟩ = some (.string noB) := by simp [World.cell?, hrow]
      have x1 : w2.cell? ⟨w.heap.size, 1, none⟩ = some (.bool false) := by simp [World.cell?, hrow]
      have HE := Lib.hid (binds_row (.string ⟨#[]⟩) (.bool false) hrow HB.out)
      have HBn := Lib.hid (fun W => below_new W (.cells #[.int .i64 x.kind, .string x.text, .slice B x.kids.length c2] 49))
      have HRow := Lib.hid hrow
      clear hb hrow hK
      go_wp2_with fail
      obtain ⟨y0, y1, hB9⟩ := HE.out
      have hsz9 := hB9.size
      have hb9 := HBn.out ((w2.setCell ⟨w.heap.size, 0, none⟩ (.string ⟨#[]⟩)).setCell ⟨w.heap.size, 1, none⟩ (.bool false))
      have y2 := (hb9.cell (p := ⟨w.heap.size, 0, none⟩) (cell_lt y0)).trans y0
      have y3 := (hb9.cell (p := ⟨w.heap.size, 1, none⟩) (cell_lt y1)).trans y1
      first
        | exact bodyPost_ret (v := .tuple #[.agg #[.string ⟨#[]⟩, .bool false], .bool false]) (by simp [results, Tryz.results14, go_sem, y2, y3]) rfl ⟨rfl, hB9.trans (hb9.mono hsz9)⟩
        | exact bodyPost_ret (v := .tuple #[.agg #[.string ⟨#[]⟩, .bool false], .bool false]) (by simp [results, Tryz.results14, go_sem, y0, y1]) rfl ⟨rfl, hB9⟩
end Go.Proofs.YtebejlnegalokaaGreatDoor
