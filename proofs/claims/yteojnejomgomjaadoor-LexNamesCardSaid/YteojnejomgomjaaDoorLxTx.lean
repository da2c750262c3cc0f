/-
  The walk of a lexer's step: texts in quotes.
-/
import Derived.Test.YteojnejomgomjaaDoorProg
import Derived.Test.YteojnejomgomjaaDoorReg
import Derived.WalkKit
import Derived.WalkSpells
import Derived.WalkLawsBesides
import Derived.Lib.Hide
import Derived.Lib.MinMax
import Derived.Deep.QuietTactic
import Derived.BigQuiet
import Derived.OwnWalk
import Derived.Deep.AppendLies
import Derived.KernelRfl
import Derived.Test.YteojnejomgomjaaDoorLxB
set_option linter.unusedSimpArgs false
set_option linter.unusedVariables false
namespace Go.Proofs.YteojnejomgomjaaDoor
open Go.RowKit Go.Maps

def tText (s : ByteArray) : Tok := if byte0 s = 39 then (if dQuoted s = 0 then ⟨10, s, noText⟩ else ⟨4, s.extract 0 (dQuoted s), noText⟩) else noTok
/-- Behind a quote, from place i on. -/
def quoShut : List UInt8 → Nat → Nat
  | [], i => i
  | d :: r, i => if d ≠ 39 then i else quoGo r (i + 1)
def quoAt (o : Bool) (l : List UInt8) (i : Nat) : Nat := if o then quoGo l i else quoShut l i
theorem quo_q (l : List UInt8) (i : Nat) : quoGo (39 :: l) i = quoShut l (i + 1) := by
  cases l with
  | nil => exact quo_end i
  | cons d r =>
    by_cases hd : d ≠ 39
    · rw [quo_stop hd]
      show _ = if d ≠ 39 then i + 1 else quoGo r (i + 1 + 1)
      rw [if_pos hd]
    · obtain rfl : d = 39 := by simpa using hd
      rw [quo_two]
      show _ = if (39 : UInt8) ≠ 39 then i + 1 else quoGo r (i + 1 + 1)
      rw [if_neg (by simp)]
theorem quoAt_quote (o : Bool) (l : List UInt8) (i : Nat) : quoAt o (39 :: l) i = quoAt (!o) l (i + 1) := by
  cases o with
  | true => exact quo_q l i
  | false =>
    show (if (39 : UInt8) ≠ 39 then i else quoGo l (i + 1)) = quoGo l (i + 1)
    rw [if_neg (by simp)]
theorem quoAt_open {c : UInt8} (h : c ≠ 39) (l : List UInt8) (i : Nat) : quoAt true (c :: l) i = quoAt true l (i + 1) := quo_other h l i
theorem quoAt_shut {c : UInt8} (h : c ≠ 39) (l : List UInt8) (i : Nat) : quoAt false (c :: l) i = i := if_pos h
theorem quoted_start (s : ByteArray) : quoAt true (s.data.toList.drop 1) 1 = dQuoted s := rfl
theorem quoted_pos {o : Bool} {l : List UInt8} {i : Nat} : True := trivial
theorem bytes_drop {s : ByteArray} {k : Nat} (h : k < s.size) : s.data.toList.drop k = (s[k]'h) :: s.data.toList.drop (k + 1) := by
  have hl : k < s.data.toList.length := by rw [bytes_len]; exact h
  rw [List.drop_eq_getElem_cons hl]
  rfl
theorem byte0_at' {s : ByteArray} (h : 0 < s.size) : byte0 s = (s[0]'h).toNat := by
  unfold byte0
  have := bytes_drop h
  rw [List.drop_zero] at this
  rw [this]
  rfl
theorem byte_39 (c : UInt8) (b : Bool) (h : decide (c = 39) = b) : ((c.toNat : Int) == 39) = b := by
  rw [← h, Bool.eq_iff_iff, beq_iff_eq, decide_eq_true_eq]
  constructor
  · intro h
    exact UInt8.toNat_inj.1 (by show c.toNat = 39; omega)
  · intro h
    rw [h]; rfl

set_option maxRecDepth 100000 in
set_option maxHeartbeats 8000000 in
theorem text_any (X : Nat) (s : ByteArray) (w : World) (hL : LexAt w X s) (h1 : 0 < s.size) (hs : s.size ≤ 1000000) :
    Calls Tryd.prog 26 #[.pointer (some ⟨X, 0, none⟩)] w fun e w' => e = .returned (tText s).val ∧ Below w.heap.size w w' := by
  have hB0 := below_new w (.cells zTok tK)
  have hX0 := heap_alloc_new w (.cells zTok tK)
  have hz0 : (w.alloc (.cells zTok tK)).heap.size = w.heap.size + 1 := by simp
  have hL0 := hL.below hB0
  have c0 := hL0.cells.1
  have HE : Hid (tText s = if byte0 s = 39 then (if dQuoted s = 0 then ⟨10, s, noText⟩ else ⟨4, s.extract 0 (dQuoted s), noText⟩) else noTok) := Lib.hid rfl
  rw [byte0_at' h1] at HE
  by_cases hq : (s[0]'h1) = 39
  · have q0 := byte_39 (s[0]'h1) true (by simpa using hq)
    have q1 : (((s[0]'h1).toNat : Int) != 39) = false := by rw [bne, q0]; rfl
    rw [if_pos (by rw [hq]; rfl)] at HE
    have HQ := Lib.hid (quoted_start s)
    clear hq q0
    have HT := Lib.hid (fun kd n W (h : W.cell? ⟨X, 0, none⟩ = some (.string s)) (hn : n ≤ s.size) => token_any X s ByteArray.empty kd n W h hn hs)
    generalize hQ : dQuoted s = Q at *
    clear hQ
    go_enter Tryd.func26, Tryd.ntmps26
    go_wp2_with fail
    generalize w.alloc (.cells #[.int .i64 0, .string ⟨#[]⟩, .string ⟨#[]⟩] 27) = w1 at *
    have hX1 := hX0
    have x0_hX1 : w1.cell? ⟨w.heap.size, 0, none⟩ = some (.int .i64 0) := by simp [World.cell?, hX1]
    have x1_hX1 : w1.cell? ⟨w.heap.size, 1, none⟩ = some (.string ⟨#[]⟩) := by simp [World.cell?, hX1]
    have x2_hX1 : w1.cell? ⟨w.heap.size, 2, none⟩ = some (.string ⟨#[]⟩) := by simp [World.cell?, hX1]
    have z_hX1 : ∀ j, w1.frozen? ⟨w.heap.size, j, none⟩ = false := fun j => frozen_of_row w1 _ j _ _ hX1
    go_loop [3, 4] (fun o i => ∃ (k : Nat) (b : Bool), i = .int .i64 k ∧ o = .bool b ∧ 1 ≤ k ∧ k ≤ s.size ∧ Hid (quoAt b (s.data.toList.drop k) k = Q)) (fun _ i => s.size - (intOf i).toNat)
    case atStart => exact ⟨1, true, rfl, rfl, Nat.le_refl _, h1, HQ⟩
    case round =>
      obtain ⟨k, b, rfl, rfl, hk1, hk2, HK⟩ := hrel
      by_cases hlt : k < s.size
      · have hd := bytes_drop hlt
        rw [hd] at HK
        clear hd
        by_cases hc : (s[k]'hlt) = 39
        · have qc := byte_39 (s[k]'hlt) true (by simpa using hc)
          rw [hc, quoAt_quote] at HK
          clear hc
          cases b
          all_goals
            go_wp2_with fail
            go_round
            case rel => exact ⟨k + 1, _, by go_num, rfl, by omega, by omega, HK⟩
            case measure => simp [intOf]; omega
        · have qc := byte_39 (s[k]'hlt) false (by simpa using hc)
          cases b with
          | true =>
            rw [quoAt_open hc] at HK
            clear hc
            go_wp2_with fail
            go_round
            case rel => exact ⟨k + 1, _, by go_num, rfl, by omega, by omega, HK⟩
            case measure => simp [intOf]; omega
          | false =>
            rw [quoAt_shut hc] at HK
            rw [← HK.out, if_neg (by omega)] at HE
            clear hc
            go_wp2_with fail
            refine (HT.out _ k _ c0 hk2).mono ?_
            rintro e w3 ⟨rfl, hb3⟩
            have hB3 : Below w.heap.size w w3 := hB0.trans (hb3.mono (by omega))
            have hX3 := (hb3.block w.heap.size (by omega)).trans hX1
            have x0_hX3 : w3.cell? ⟨w.heap.size, 0, none⟩ = some (.int .i64 0) := by simp [World.cell?, hX3]
            have x1_hX3 : w3.cell? ⟨w.heap.size, 1, none⟩ = some (.string ⟨#[]⟩) := by simp [World.cell?, hX3]
            have x2_hX3 : w3.cell? ⟨w.heap.size, 2, none⟩ = some (.string ⟨#[]⟩) := by simp [World.cell?, hX3]
            have z_hX3 : ∀ j, w3.frozen? ⟨w.heap.size, j, none⟩ = false := fun j => frozen_of_row w3 _ j _ _ hX3
            go_wp2_with fail
            have hR9 := set3 (b1 := .int .i64 4) (b2 := .string (s.extract 0 k)) (b3 := .string ByteArray.empty) hX3
            have hB9 := ((hB3.setCell (p := ⟨w.heap.size, 0, none⟩) (Nat.le_refl _) (.int .i64 4)).setCell (p := ⟨w.heap.size, 1, none⟩) (Nat.le_refl _) (.string (s.extract 0 k))).setCell (p := ⟨w.heap.size, 2, none⟩) (Nat.le_refl _) (.string ByteArray.empty)
            generalize (((w3.setCell ⟨w.heap.size, 0, none⟩ (.int .i64 4)).setCell ⟨w.heap.size, 1, none⟩ (.string (s.extract 0 k))).setCell ⟨w.heap.size, 2, none⟩ (.string ByteArray.empty)) = W9 at *
            have y0 : W9.cell? ⟨w.heap.size, 0, none⟩ = some (.int .i64 4) := by simp [World.cell?, hR9]
            have y1 : W9.cell? ⟨w.heap.size, 1, none⟩ = some (.string (s.extract 0 k)) := by simp [World.cell?, hR9]
            have y2 : W9.cell? ⟨w.heap.size, 2, none⟩ = some (.string ByteArray.empty) := by simp [World.cell?, hR9]
            exact bodyPost_ret (v := .agg #[.int .i64 4, .string (s.extract 0 k), .string ByteArray.empty]) (by simp [results, Tryd.results26, go_sem, y0, y1, y2]) rfl ⟨by rw [HE.out]; rfl, hB9⟩
      · obtain rfl : k = s.size := by omega
        rw [List.drop_of_length_le (by rw [bytes_len]; exact Nat.le_refl _)] at HK
        have e0 : s.extract 0 s.size = s := ext_all s (Nat.le_refl _)
        have hnil : ∀ i, quoAt true [] i = 0 := quo_nil
        have hnil2 : ∀ i, quoAt false [] i = i := fun _ => rfl
        cases b with
        | true =>
          rw [hnil] at HK
          rw [← HK.out, if_pos rfl] at HE
          clear hnil hnil2 HK
          have HT2 := Lib.hid (HT.out 10 s.size w1 c0 (Nat.le_refl _))
          rw [e0] at HT2
          clear e0
          go_wp2_with fail
          refine HT2.out.mono ?_
          rintro e w3 ⟨rfl, hb3⟩
          have hB3 : Below w.heap.size w w3 := hB0.trans (hb3.mono (by omega))
          have hX3 := (hb3.block w.heap.size (by omega)).trans hX1
          have x0_hX3 : w3.cell? ⟨w.heap.size, 0, none⟩ = some (.int .i64 0) := by simp [World.cell?, hX3]
          have x1_hX3 : w3.cell? ⟨w.heap.size, 1, none⟩ = some (.string ⟨#[]⟩) := by simp [World.cell?, hX3]
          have x2_hX3 : w3.cell? ⟨w.heap.size, 2, none⟩ = some (.string ⟨#[]⟩) := by simp [World.cell?, hX3]
          have z_hX3 : ∀ j, w3.frozen? ⟨w.heap.size, j, none⟩ = false := fun j => frozen_of_row w3 _ j _ _ hX3
          go_wp2_with fail
          have hR9 := set3 (b1 := .int .i64 10) (b2 := .string s) (b3 := .string ByteArray.empty) hX3
          have hB9 := ((hB3.setCell (p := ⟨w.heap.size, 0, none⟩) (Nat.le_refl _) (.int .i64 10)).setCell (p := ⟨w.heap.size, 1, none⟩) (Nat.le_refl _) (.string s)).setCell (p := ⟨w.heap.size, 2, none⟩) (Nat.le_refl _) (.string ByteArray.empty)
          generalize (((w3.setCell ⟨w.heap.size, 0, none⟩ (.int .i64 10)).setCell ⟨w.heap.size, 1, none⟩ (.string s)).setCell ⟨w.heap.size, 2, none⟩ (.string ByteArray.empty)) = W9 at *
          have y0 : W9.cell? ⟨w.heap.size, 0, none⟩ = some (.int .i64 10) := by simp [World.cell?, hR9]
          have y1 : W9.cell? ⟨w.heap.size, 1, none⟩ = some (.string s) := by simp [World.cell?, hR9]
          have y2 : W9.cell? ⟨w.heap.size, 2, none⟩ = some (.string ByteArray.empty) := by simp [World.cell?, hR9]
          exact bodyPost_ret (v := .agg #[.int .i64 10, .string s, .string ByteArray.empty]) (by simp [results, Tryd.results26, go_sem, y0, y1, y2]) rfl ⟨by rw [HE.out]; rfl, hB9⟩
        | false =>
          rw [hnil2] at HK
          rw [← HK.out, if_neg (by omega), e0] at HE
          clear hnil hnil2 HK
          have HT2 := Lib.hid (HT.out 4 s.size w1 c0 (Nat.le_refl _))
          rw [e0] at HT2
          clear e0
          go_wp2_with fail
          refine HT2.out.mono ?_
          rintro e w3 ⟨rfl, hb3⟩
          have hB3 : Below w.heap.size w w3 := hB0.trans (hb3.mono (by omega))
          have hX3 := (hb3.block w.heap.size (by omega)).trans hX1
          have x0_hX3 : w3.cell? ⟨w.heap.size, 0, none⟩ = some (.int .i64 0) := by simp [World.cell?, hX3]
          have x1_hX3 : w3.cell? ⟨w.heap.size, 1, none⟩ = some (.string ⟨#[]⟩) := by simp [World.cell?, hX3]
          have x2_hX3 : w3.cell? ⟨w.heap.size, 2, none⟩ = some (.string ⟨#[]⟩) := by simp [World.cell?, hX3]
          have z_hX3 : ∀ j, w3.frozen? ⟨w.heap.size, j, none⟩ = false := fun j => frozen_of_row w3 _ j _ _ hX3
          go_wp2_with fail
          have hR9 := set3 (b1 := .int .i64 4) (b2 := .string s) (b3 := .string ByteArray.empty) hX3
          have hB9 := ((hB3.setCell (p := ⟨w.heap.size, 0, none⟩) (Nat.le_refl _) (.int .i64 4)).setCell (p := ⟨w.heap.size, 1, none⟩) (Nat.le_refl _) (.string s)).setCell (p := ⟨w.heap.size, 2, none⟩) (Nat.le_refl _) (.string ByteArray.empty)
          generalize (((w3.setCell ⟨w.heap.size, 0, none⟩ (.int .i64 4)).setCell ⟨w.heap.size, 1, none⟩ (.string s)).setCell ⟨w.heap.size, 2, none⟩ (.string ByteArray.empty)) = W9 at *
          have y0 : W9.cell? ⟨w.heap.size, 0, none⟩ = some (.int .i64 4) := by simp [World.cell?, hR9]
          have y1 : W9.cell? ⟨w.heap.size, 1, none⟩ = some (.string s) := by simp [World.cell?, hR9]
          have y2 : W9.cell? ⟨w.heap.size, 2, none⟩ = some (.string ByteArray.empty) := by simp [World.cell?, hR9]
          exact bodyPost_ret (v := .agg #[.int .i64 4, .string s, .string ByteArray.empty]) (by simp [results, Tryd.results26, go_sem, y0, y1, y2]) rfl ⟨by rw [HE.out]; rfl, hB9⟩
  · have q0 := byte_39 (s[0]'h1) false (by simpa using hq)
    have q1 : (((s[0]'h1).toNat : Int) != 39) = true := by rw [bne, q0]; rfl
    rw [if_neg (show ¬ (s[0]'h1).toNat = 39 from fun h => hq (UInt8.toNat_inj.1 h))] at HE
    clear hq q0
    go_enter Tryd.func26, Tryd.ntmps26
    go_wp2_with fail
    exact bodyPost_ret (v := .agg #[.int .i64 0, .string ⟨#[]⟩, .string ⟨#[]⟩]) (by simp [results, Tryd.results26, go_sem]) rfl ⟨by rw [HE.out]; rfl, hB0⟩
end Go.Proofs.YteojnejomgomjaaDoor
