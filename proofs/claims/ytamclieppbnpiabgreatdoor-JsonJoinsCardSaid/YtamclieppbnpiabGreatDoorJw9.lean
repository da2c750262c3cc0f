/-
  The library at four bytes: their number.
-/
import Derived.Test.YtamclieppbnpiabGreatDoorProg
import Derived.Test.YtamclieppbnpiabGreatDoorReg
import Derived.WalkKit
import Derived.WalkSpells
import Derived.WalkLawsBesides
import Derived.Lib.Hide
import Derived.Lib.MinMax
import Derived.Deep.QuietTactic
import Derived.BigQuiet
import Derived.OwnWalk
import Derived.Deep.AppendLies
import Derived.KernelRfl
import Derived.Laws.RangeAny
import Derived.Laws.IdiomStrings
import Derived.Deep.Cut
import Derived.Test.YtamclieppbnpiabGreatDoorJw8
set_option linter.unusedSimpArgs false
set_option linter.unusedVariables false
namespace Go.Proofs.YtamclieppbnpiabGreatDoor
open Go Go.RowKit Go.Sort Go.Shelf
open Fz (HoldsS)

def lowN (n : Nat) : Nat := n ||| 32
set_option maxRecDepth 100000 in
theorem low_fin : ∀ n : Fin 256, bits BinOp.or IntKind.u8 ((n.val : Nat) : Int) 32 = ((lowN n.val : Nat) : Int) := by decide
theorem low_c (c : UInt8) : bits BinOp.or IntKind.u8 (c.toNat : Int) 32 = ((lowN c.toNat : Nat) : Int) := low_fin ⟨c.toNat, c.toNat_lt⟩
set_option maxRecDepth 100000 in
theorem low_lt : ∀ n : Fin 256, lowN n.val < 256 := by decide
theorem hex_class (c : UInt8) : hexN c = if 48 ≤ c.toNat ∧ c.toNat ≤ 57 then some (c.toNat - 48) else if 97 ≤ lowN c.toNat ∧ lowN c.toNat ≤ 102 then some (lowN c.toNat - 87) else none := by
  have := byte_all (p := fun c => hexN c == (if 48 ≤ c.toNat ∧ c.toNat ≤ 57 then some (c.toNat - 48) else if 97 ≤ lowN c.toNat ∧ lowN c.toNat ≤ 102 then some (lowN c.toNat - 87) else none)) (by decide +kernel) c
  exact beq_iff_eq.1 this
theorem low_95 {c : UInt8} (h : c.toNat = 95) : lowN c.toNat = 127 := by rw [h]; rfl
theorem row_byte {s : ByteArray} {c k : Nat} {x : UInt8} (h : s.data.toList[k]? = some x) : (bytesRow s c)[k]? = some (.int .u8 x.toNat) := by
  obtain ⟨hj, h2⟩ := List.getElem?_eq_some_iff.1 h
  have h3 := bytesRow_at s c k (by simpa using hj)
  rw [h3, ← h2]
  simp
theorem Lower_lib (c : UInt8) (w : World) : Calls Tryz.prog 110 #[.int .u8 (c.toNat : Int)] w fun e w' => e = .returned (.int .u8 ((lowN c.toNat : Nat) : Int)) ∧ w' = w := by
  have := Lay_internal_strconv_lower (c.toNat : Int) w
  rw [low_c] at this
  exact this
/-- The number of four digits, or none. -/
def allHex (l : List UInt8) : Option Nat := (hexGo l.length 0 l).map (·.1)
set_option maxRecDepth 100000 in
set_option maxHeartbeats 8000000 in
theorem PUintI_any (l : List UInt8) (hl : l.length = 4) (w : World) :
    Calls Tryz.prog 96 #[.string (bs l), .int .i64 16, .int .i64 64] w fun e w' =>
      (∃ n : Nat, hex4 l = some (n, []) ∧ n < 65536 ∧ e = .returned (.tuple #[.int .u64 n, .nilIface]) ∨ hex4 l = none ∧ e = .returned (.tuple #[.int .u64 0, .iface 158 (.int .i64 2)])) ∧ Below w.heap.size w w' := by
  have hcv := fun W => run_bytes_of_string (P := Tryz.prog) W 9 71 5 (bs l) Tryz.underlying9 Tryz.underlying71 Tryz.underlying5
  have hsz : (bs l).size = 4 := by rw [bs_size, hl]
  have hem : (bs l).toList.isEmpty = false := Lz.empty_not (by omega)
  have kmax : IntKind.u64.wrap (IntKind.u64.wrap 18446744073709551616 - 1) = 18446744073709551615 := by decide
  go_enter Tryz.func96, Tryz.ntmps96
  go_wp2_with fail
  clear hcv
  generalize hC : bytesRow (bs l) (grownCap w 4 0 5) = cs
  have HC : Hid (∀ (k : Nat) (x : UInt8), l[k]? = some x → cs[k]? = some (.int .u8 x.toNat)) := Lib.hid (fun k x h => by rw [← hC]; exact row_byte (by rw [bs_list]; exact h))
  have hm : (w.alloc (.cells cs tU (cs.size, cs.size + 1))).drew.heap[w.heap.size]? = some (.cells cs tU (cs.size, cs.size + 1)) := heap_alloc_new w _
  have hB : Below w.heap.size w (w.alloc (.cells cs tU (cs.size, cs.size + 1))).drew := (below_new w _).drew
  generalize (w.alloc (.cells cs tU (cs.size, cs.size + 1))).drew = W1 at *
  have HM := Lib.hid hm
  have HB := Lib.hid hB
  have H4 : Hid (hex4 l = hexGo 4 0 (l.drop 0)) := Lib.hid rfl
  have HLN := Lib.hid hl
  clear hm hB hC
  go_loopw [12, 13, 101] (fun us v i wr => ∃ (k n : Nat), i = .int .i64 k ∧ v = .int .u64 n ∧ us = .bool false ∧ k ≤ 4 ∧ n < 16 ^ k ∧ Hid (hex4 l = hexGo (4 - k) n (l.drop k)) ∧ Hid (wr.heap[w.heap.size]? = some (.cells cs tU (cs.size, cs.size + 1))) ∧ Hid (Below w.heap.size w wr)) (fun _ _ i _ => 4 - (intOf i).toNat)
  case atStart => exact ⟨0, 0, rfl, rfl, rfl, by omega, by simp, H4, HM, HB⟩
  case round =>
    obtain ⟨k, n, rfl, rfl, rfl, hk, hn, HH, HMr, HK⟩ := hrel
    have i0 : (0 : Int) ≤ (k : Int) := by omega
    have hn4 : n < 65536 := by
      have : (16 : Nat) ^ k ≤ 16 ^ 4 := Nat.pow_le_pow_right (by omega) hk
      omega
    by_cases h1 : k < 4
    · have i1 : (k : Int) < 4 := by omega
      have gx := List.getElem?_eq_getElem (l := l) (i := k) (by omega)
      have hdr : l.drop k = l[k]'(by omega) :: l.drop (k + 1) := List.drop_eq_getElem_cons (by omega)
      have h4 := HH.out
      rw [hdr, show 4 - k = (4 - (k + 1)) + 1 by omega, hexGo] at h4
      generalize l[k]'(by omega) = c at *
      have e1 : wr.cell? ⟨w.heap.size, k, none⟩ = some (.int .u8 c.toNat) := by
        rw [Lib.cell_of_heap HMr.out]; exact HC.out k c gx
      have hc8 := UInt8.toNat_lt c
      have hcl := hex_class c
      have HL := Lib.hid (Lower_lib c)
      have hlo := low_lt ⟨c.toNat, hc8⟩
      simp only at hlo
      have hsz := HK.out.size
      have hlw : w.heap.size < wr.heap.size := (Array.getElem?_eq_some_iff.1 HMr.out).1
      have hn3 : n < 4096 := by
        have : (16 : Nat) ^ k ≤ 16 ^ 3 := Nat.pow_le_pow_right (by omega) (by omega)
        omega
      clear gx hdr
      by_cases hd : 48 ≤ c.toNat ∧ c.toNat ≤ 57
      · rw [if_pos hd] at hcl
        rw [hcl] at h4
        simp only at h4
        have HE := Lib.hid h4
        have q1 : ((c.toNat : Int) == 95) = false := by simp; omega
        have q2 : (48 : Int) ≤ (c.toNat : Int) := by omega
        have q3 : (c.toNat : Int) ≤ 57 := by omega
        have w1 : IntKind.u8.wrap ((c.toNat : Int) - 48) = (c.toNat : Int) - 48 := IntWalk.u8_in _ (by omega)
        have q4 : ¬ (16 : Int) ≤ (c.toNat : Int) - 48 := by omega
        have q5 : ¬ (1152921504606846976 : Int) ≤ (n : Int) := by omega
        have w2 : IntKind.u64.wrap ((n : Int) * 16) = (n : Int) * 16 := IntWalk.u64_in _ (by omega)
        have w3 : IntKind.u64.wrap ((c.toNat : Int) - 48) = (c.toNat : Int) - 48 := IntWalk.u64_in _ (by omega)
        have w4 : IntKind.u64.wrap ((n : Int) * 16 + ((c.toNat : Int) - 48)) = (n : Int) * 16 + ((c.toNat : Int) - 48) := IntWalk.u64_in _ (by omega)
        have q6 : ¬ (n : Int) * 16 + ((c.toNat : Int) - 48) < (n : Int) * 16 := by omega
        have q7 : ¬ (18446744073709551615 : Int) < (n : Int) * 16 + ((c.toNat : Int) - 48) := by omega
        have hnn : 16 * n + (c.toNat - 48) < 16 ^ (k + 1) := by rw [Nat.pow_succ]; omega
        have hcast : ((16 * n + (c.toNat - 48) : Nat) : Int) = (n : Int) * 16 + ((c.toNat : Int) - 48) := by omega
        have HCa := Lib.hid hcast
        have HNn := Lib.hid hnn
        clear hcl h4 hlo HH hcast hnn
        go_wp2_with fail
        go_roundw
        case rel => exact ⟨k + 1, 16 * n + (c.toNat - 48), by go_num, by rw [HCa.out], rfl, by omega, HNn.out, HE, HMr, HK⟩
        case measure => simp [intOf]; omega
      · rw [if_neg hd] at hcl
        have h95 := low_95 (c := c)
        generalize lowN c.toNat = m at *
        by_cases c95 : c.toNat = 95
        · have hm : m = 127 := h95 c95
          subst hm
          have q1 : ((c.toNat : Int) == 95) = true := by simp; omega
          have q2 : (48 : Int) ≤ (c.toNat : Int) := by omega
          have q3 : ¬ (c.toNat : Int) ≤ 57 := by omega
          rw [if_neg (by omega)] at hcl
          rw [hcl] at h4
          have HE := Lib.hid h4
          clear hcl h4 hlo HH h95 hd c95
          go_wp2_with fail
          refine (HL.out _).mono ?_
          rintro e w1 ⟨rfl, rfl⟩
          go_wp2_with fail
          refine (HL.out _).mono ?_
          rintro e w1 ⟨rfl, rfl⟩
          go_wp2_with fail
          go_ret2
          exact ⟨⟨0, .inr ⟨HE.out, rfl⟩⟩, HK.out⟩
        have q1 : ((c.toNat : Int) == 95) = false := by simp; omega
        clear h95
        by_cases c48 : 48 ≤ c.toNat
        · have q2 : (48 : Int) ≤ (c.toNat : Int) := by omega
          have q3 : ¬ (c.toNat : Int) ≤ 57 := by omega
          clear hd c95 c48
          by_cases hm1 : 97 ≤ m
          · have q4 : (97 : Int) ≤ (m : Int) := by omega
            by_cases hm2 : m ≤ 122
            · have q5 : (m : Int) ≤ 122 := by omega
              have v1 : IntKind.u8.wrap ((m : Int) - 97) = (m : Int) - 97 := IntWalk.u8_in _ (by omega)
              obtain ⟨dd, hdd⟩ : ∃ dd : Nat, dd = m - 87 := ⟨_, rfl⟩
              have v2 : IntKind.u8.wrap ((m : Int) - 97 + 10) = (dd : Int) := by rw [IntWalk.u8_in _ (by omega)]; omega
              by_cases hm3 : m ≤ 102
              · rw [if_pos ⟨hm1, hm3⟩] at hcl
                rw [hcl] at h4
                simp only at h4
                rw [← hdd] at h4
                have HE := Lib.hid h4
                obtain ⟨E, hE⟩ : ∃ E : Int, E = (dd : Int) := ⟨_, rfl⟩
                rw [← hE] at v2
                have q6 : ¬ (16 : Int) ≤ E := by omega
                have HEb : Hid (0 ≤ E ∧ E < 16) := Lib.hid (by omega)
                have hnn : 16 * n + dd < 16 ^ (k + 1) := by rw [Nat.pow_succ]; omega
                have hcast : ((16 * n + dd : Nat) : Int) = (n : Int) * 16 + E := by omega
                have HCa := Lib.hid hcast
                have HNn := Lib.hid hnn
                clear hcl h4 hlo HH hcast hnn hdd hm1 hm2 hm3 hE
                go_wp2_with fail
                refine (HL.out _).mono ?_
                rintro e w1 ⟨rfl, rfl⟩
                go_wp2_with fail
                refine (HL.out _).mono ?_
                rintro e w1 ⟨rfl, rfl⟩
                go_wp2_with fail
                refine (HL.out _).mono ?_
                rintro e w1 ⟨rfl, rfl⟩
                go_upto_region 46 with fail
                clear v1 v2 q1 q2 q4 q5
                go_upto_region 48 with fail
                have q7 : ¬ (1152921504606846976 : Int) ≤ (n : Int) := by omega
                clear q6
                go_upto_region 50 with fail
                have w2 : IntKind.u64.wrap ((n : Int) * 16) = (n : Int) * 16 := IntWalk.u64_in _ (by omega)
                clear q7
                go_upto_region 51 with fail
                have w3 : IntKind.u64.wrap E = E := IntWalk.u64_in _ (by have := HEb.out; omega)
                have w4 : IntKind.u64.wrap ((n : Int) * 16 + E) = (n : Int) * 16 + E := IntWalk.u64_in _ (by have := HEb.out; omega)
                clear w2
                go_upto_region 52 with fail
                have q8 : ¬ (n : Int) * 16 + E < (n : Int) * 16 := by have := HEb.out; omega
                have q9 : ¬ (18446744073709551615 : Int) < (n : Int) * 16 + E := by have := HEb.out; omega
                clear w3 w4
                go_wp2_with fail
                go_roundw
                case rel => exact ⟨k + 1, 16 * n + dd, by go_num, by rw [HCa.out], rfl, by omega, HNn.out, HE, HMr, HK⟩
                case measure => simp [intOf]; omega
              · rw [if_neg (fun h => hm3 h.2)] at hcl
                rw [hcl] at h4
                have HE := Lib.hid h4
                have q6 : (16 : Int) ≤ (dd : Int) := by omega
                clear hcl h4 hlo HH hdd hm1 hm2 hm3
                go_wp2_with fail
                refine (HL.out _).mono ?_
                rintro e w1 ⟨rfl, rfl⟩
                go_wp2_with fail
                refine (HL.out _).mono ?_
                rintro e w1 ⟨rfl, rfl⟩
                go_wp2_with fail
                refine (HL.out _).mono ?_
                rintro e w1 ⟨rfl, rfl⟩
                go_wp2_with fail
                go_ret2
                exact ⟨⟨0, .inr ⟨HE.out, rfl⟩⟩, HK.out⟩
            · have q5 : ¬ (m : Int) ≤ 122 := by omega
              rw [if_neg (fun h => hm2 (by omega))] at hcl
              rw [hcl] at h4
              have HE := Lib.hid h4
              clear hcl h4 hlo HH hm1 hm2
              go_wp2_with fail
              refine (HL.out _).mono ?_
              rintro e w1 ⟨rfl, rfl⟩
              go_wp2_with fail
              refine (HL.out _).mono ?_
              rintro e w1 ⟨rfl, rfl⟩
              go_wp2_with fail
              go_ret2
              exact ⟨⟨0, .inr ⟨HE.out, rfl⟩⟩, HK.out⟩
          · have q4 : ¬ (97 : Int) ≤ (m : Int) := by omega
            rw [if_neg (fun h => hm1 h.1)] at hcl
            rw [hcl] at h4
            have HE := Lib.hid h4
            clear hcl h4 hlo HH hm1
            go_wp2_with fail
            refine (HL.out _).mono ?_
            rintro e w1 ⟨rfl, rfl⟩
            go_wp2_with fail
            go_ret2
            exact ⟨⟨0, .inr ⟨HE.out, rfl⟩⟩, HK.out⟩
        · have q2 : ¬ (48 : Int) ≤ (c.toNat : Int) := by omega
          clear hd c95 c48
          by_cases hm1 : 97 ≤ m
          · have q4 : (97 : Int) ≤ (m : Int) := by omega
            by_cases hm2 : m ≤ 122
            · have q5 : (m : Int) ≤ 122 := by omega
              have v1 : IntKind.u8.wrap ((m : Int) - 97) = (m : Int) - 97 := IntWalk.u8_in _ (by omega)
              obtain ⟨dd, hdd⟩ : ∃ dd : Nat, dd = m - 87 := ⟨_, rfl⟩
              have v2 : IntKind.u8.wrap ((m : Int) - 97 + 10) = (dd : Int) := by rw [IntWalk.u8_in _ (by omega)]; omega
              by_cases hm3 : m ≤ 102
              · rw [if_pos ⟨hm1, hm3⟩] at hcl
                rw [hcl] at h4
                simp only at h4
                rw [← hdd] at h4
                have HE := Lib.hid h4
                obtain ⟨E, hE⟩ : ∃ E : Int, E = (dd : Int) := ⟨_, rfl⟩
                rw [← hE] at v2
                have q6 : ¬ (16 : Int) ≤ E := by omega
                have HEb : Hid (0 ≤ E ∧ E < 16) := Lib.hid (by omega)
                have hnn : 16 * n + dd < 16 ^ (k + 1) := by rw [Nat.pow_succ]; omega
                have hcast : ((16 * n + dd : Nat) : Int) = (n : Int) * 16 + E := by omega
                have HCa := Lib.hid hcast
                have HNn := Lib.hid hnn
                clear hcl h4 hlo HH hcast hnn hdd hm1 hm2 hm3 hE
                go_wp2_with fail
                refine (HL.out _).mono ?_
                rintro e w1 ⟨rfl, rfl⟩
                go_wp2_with fail
                refine (HL.out _).mono ?_
                rintro e w1 ⟨rfl, rfl⟩
                go_wp2_with fail
                refine (HL.out _).mono ?_
                rintro e w1 ⟨rfl, rfl⟩
                go_upto_region 46 with fail
                clear v1 v2 q1 q2 q4 q5
                go_upto_region 48 with fail
                have q7 : ¬ (1152921504606846976 : Int) ≤ (n : Int) := by omega
                clear q6
                go_upto_region 50 with fail
                have w2 : IntKind.u64.wrap ((n : Int) * 16) = (n : Int) * 16 := IntWalk.u64_in _ (by omega)
                clear q7
                go_upto_region 51 with fail
                have w3 : IntKind.u64.wrap E = E := IntWalk.u64_in _ (by have := HEb.out; omega)
                have w4 : IntKind.u64.wrap ((n : Int) * 16 + E) = (n : Int) * 16 + E := IntWalk.u64_in _ (by have := HEb.out; omega)
                clear w2
                go_upto_region 52 with fail
                have q8 : ¬ (n : Int) * 16 + E < (n : Int) * 16 := by have := HEb.out; omega
                have q9 : ¬ (18446744073709551615 : Int) < (n : Int) * 16 + E := by have := HEb.out; omega
                clear w3 w4
                go_wp2_with fail
                go_roundw
                case rel => exact ⟨k + 1, 16 * n + dd, by go_num, by rw [HCa.out], rfl, by omega, HNn.out, HE, HMr, HK⟩
                case measure => simp [intOf]; omega
              · rw [if_neg (fun h => hm3 h.2)] at hcl
                rw [hcl] at h4
                have HE := Lib.hid h4
                have q6 : (16 : Int) ≤ (dd : Int) := by omega
                clear hcl h4 hlo HH hdd hm1 hm2 hm3
                go_wp2_with fail
                refine (HL.out _).mono ?_
                rintro e w1 ⟨rfl, rfl⟩
                go_wp2_with fail
                refine (HL.out _).mono ?_
                rintro e w1 ⟨rfl, rfl⟩
                go_wp2_with fail
                refine (HL.out _).mono ?_
                rintro e w1 ⟨rfl, rfl⟩
                go_wp2_with fail
                go_ret2
                exact ⟨⟨0, .inr ⟨HE.out, rfl⟩⟩, HK.out⟩
            · have q5 : ¬ (m : Int) ≤ 122 := by omega
              rw [if_neg (fun h => hm2 (by omega))] at hcl
              rw [hcl] at h4
              have HE := Lib.hid h4
              clear hcl h4 hlo HH hm1 hm2
              go_wp2_with fail
              refine (HL.out _).mono ?_
              rintro e w1 ⟨rfl, rfl⟩
              go_wp2_with fail
              refine (HL.out _).mono ?_
              rintro e w1 ⟨rfl, rfl⟩
              go_wp2_with fail
              go_ret2
              exact ⟨⟨0, .inr ⟨HE.out, rfl⟩⟩, HK.out⟩
          · have q4 : ¬ (97 : Int) ≤ (m : Int) := by omega
            rw [if_neg (fun h => hm1 h.1)] at hcl
            rw [hcl] at h4
            have HE := Lib.hid h4
            clear hcl h4 hlo HH hm1
            go_wp2_with fail
            refine (HL.out _).mono ?_
            rintro e w1 ⟨rfl, rfl⟩
            go_wp2_with fail
            go_ret2
            exact ⟨⟨0, .inr ⟨HE.out, rfl⟩⟩, HK.out⟩
    · obtain rfl : k = 4 := by omega
      have h4 := HH.out
      have hd4 : l.drop 4 = [] := List.drop_of_length_le (by have := HLN.out; omega)
      rw [hd4] at h4
      have HE : Hid (hex4 l = some (n, [])) := Lib.hid h4
      clear h4 hd4
      go_wp2_with fail
      go_ret2
      exact ⟨⟨n, .inl ⟨HE.out, hn4, rfl⟩⟩, HK.out⟩
end Go.Proofs.YtamclieppbnpiabGreatDoor
/-
  The reader: four digits' number.
-/
namespace Go.Proofs.YtamclieppbnpiabGreatDoor
open Go Go.RowKit Go.Sort Go.Shelf
open Fz (HoldsS)

theorem hexGo_take : ∀ (k n : Nat) (l : List UInt8), k ≤ l.length → hexGo k n l = (hexGo k n (l.take k)).map (fun p => (p.1, l.drop k))
  | 0, n, l, _ => by simp [hexGo]
  | k + 1, n, [], h => by simp at h
  | k + 1, n, c :: l, h => by
    rw [List.take_succ_cons, List.drop_succ_cons, hexGo, hexGo]
    cases hexN c with
    | none => rfl
    | some d => exact hexGo_take k _ l (by simpa using h)
theorem hexGo_short : ∀ (k n : Nat) (l : List UInt8), l.length < k → hexGo k n l = none
  | 0, _, _, h => by omega
  | k + 1, n, [], _ => rfl
  | k + 1, n, c :: l, h => by
    rw [hexGo]
    cases hexN c with
    | none => rfl
    | some d => exact hexGo_short k _ l (by simpa using h)
theorem hexN_ascii {c : UInt8} {d : Nat} (h : hexN c = some d) : c.toNat < 128 ∧ c ≠ 43 ∧ c ≠ 45 ∧ c ≠ 95 := by
  have := byte_all (p := fun c => (hexN c).isNone || (decide (c.toNat < 128) && decide (c ≠ 43) && decide (c ≠ 45) && decide (c ≠ 95))) (by decide +kernel) c
  simp only [h, Option.isNone_some, Bool.false_or, Bool.and_eq_true, decide_eq_true_eq] at this
  exact ⟨this.1.1.1, this.1.1.2, this.1.2, this.2⟩
theorem hexGo_all : ∀ (k n : Nat) (l : List UInt8) (p : Nat × List UInt8), hexGo k n l = some p → ∀ c ∈ l.take k, c.toNat < 128 ∧ c ≠ 43 ∧ c ≠ 45 ∧ c ≠ 95
  | 0, _, _, _, _, c, hc => by simp at hc
  | k + 1, n, [], p, h, _, _ => by cases h
  | k + 1, n, x :: l, p, h, c, hc => by
    rw [hexGo] at h
    cases hx : hexN x with
    | none => rw [hx] at h; cases h
    | some d =>
      rw [hx] at h
      rw [List.take_succ_cons] at hc
      rcases List.mem_cons.1 hc with rfl | hc
      · exact hexN_ascii hx
      · exact hexGo_all k _ l p h c hc
theorem iany_no {cs : List UInt8} : ∀ {l : List UInt8}, (∀ b ∈ l, cs.contains b = false) → Lib.indexAny l cs = -1
  | [], _ => rfl
  | c :: l, h => by
    have h1 := h c (by simp)
    have h2 := iany_no (l := l) (fun b hb => h b (by simp [hb]))
    rw [Lib.indexAny, h1, h2]
    rfl
theorem cany_no {l cs : List UInt8} (h : ∀ b ∈ l, cs.contains b = false) : Lib.containsAny l cs = false := by
  unfold Lib.containsAny
  rw [iany_no h]
  rfl
theorem hexGo_lt : ∀ (k n : Nat) (l : List UInt8) (p : Nat × List UInt8), hexGo k n l = some p → p.1 < 16 ^ k * (n + 1)
  | 0, n, l, p, h => by cases h; simp
  | k + 1, n, [], p, h => by cases h
  | k + 1, n, x :: l, p, h => by
    rw [hexGo] at h
    cases hx : hexN x with
    | none => rw [hx] at h; cases h
    | some d =>
      rw [hx] at h
      have := hexGo_lt k _ l p h
      have hd : d < 16 := by
        have := byte_all (p := fun c => (hexN c).isNone || decide ((hexN c).getD 0 < 16)) (by decide +kernel) x
        simpa [hx] using this
      have h2 : 16 ^ k * (16 * n + d + 1) ≤ 16 ^ k * (16 * (n + 1)) := Nat.mul_le_mul_left _ (by omega)
      rw [Nat.pow_succ, Nat.mul_assoc]
      omega
set_option maxHeartbeats 2000000 in
theorem PUint_any (a : Addr) (l : List UInt8) (hl : l.length = 4) (w : World) (hW : WJ a w) :
    Calls Tryz.prog 117 #[.string (bs l), .int .i64 16, .int .i64 64] w fun e w' =>
      ((∃ n : Nat, hex4 l = some (n, []) ∧ n < 65536 ∧ e = .returned (.tuple #[.int .u64 n, .nilIface])) ∨ (hex4 l = none ∧ ∃ (t : TypeId) (p : Value), e = .returned (.tuple #[.int .u64 0, .iface t p]))) ∧ Below w.heap.size w w' := by
  have HI := Lib.hid (PUintI_any l hl)
  have HW := Lib.hid hW
  clear hW
  go_enter Tryz.func117, Tryz.ntmps117
  go_wp2_with fail
  refine (HI.out _).mono ?_
  rintro e w1 ⟨⟨n, (⟨h1, h2, rfl⟩ | ⟨h1, rfl⟩)⟩, hb1⟩
  · have HB := Lib.hid hb1
    have H1 := Lib.hid h1
    clear hb1 h1
    go_wp2_with fail
    go_ret2
    exact ⟨.inl ⟨n, H1.out, h2, rfl⟩, HB.out⟩
  · have HB := Lib.hid hb1
    have H1 := Lib.hid h1
    obtain ⟨tp, p, hs⟩ := (HW.out.keep hb1).syn
    clear hb1 h1
    go_wp2_with fail
    refine (Lay_strconv_toError_syntax _ (bs l) 16 64 (.iface tp p) _ (by rw [bs_size]; omega) hs (.inr ⟨_, _, rfl⟩)).mono ?_
    rintro e w2 ⟨N, rfl, _, _, hb2⟩
    have HB2 := Lib.hid (HB.out.trans (hb2.mono HB.out.size))
    clear hb2
    go_wp2_with fail
    go_ret2
    exact ⟨.inr ⟨H1.out, _, _, rfl⟩, HB2.out⟩
set_option maxRecDepth 100000 in
set_option maxHeartbeats 4000000 in
/-- Four digits' number. -/
theorem number_any' (a : Addr) (R : Nat) (l : List UInt8) (nest : Int) (ev : Value) (w : World) (h : RdAt w R l nest ev) (hl : l.length ≤ 100000000) (hW : WJ a w) :
    Calls Tryz.prog 109 #[.pointer (some ⟨R, 0, none⟩)] w fun e w' =>
      (∃ (n : Nat) (q : List UInt8), hex4 l = some (n, q) ∧ n < 65536 ∧ e = .returned (.tuple #[.int .i32 n, .bool true]) ∧ Steps w w' R q nest ev) ∨
      (hex4 l = none ∧ e = .returned (.tuple #[.int .i32 0, .bool false]) ∧ Steps w w' R l nest ev) := by
  have c0 := h.c0
  have lR := h.lt
  have HR := Lib.hid h
  have HW := Lib.hid hW
  have hsz : (bs l).size = l.length := bs_size l
  clear h hW
  by_cases h4 : l.length < 4
  · have q1 : (l.length : Int) < 4 := by omega
    have HE : Hid (hex4 l = none) := Lib.hid (hexGo_short 4 0 l h4)
    go_enter Tryz.func109, Tryz.ntmps109
    go_wp2_with fail
    go_ret2
    exact .inr ⟨HE.out, rfl, HR.out, Lz.KeptBut.refl _ _ _⟩
  · have q1 : ¬ (l.length : Int) < 4 := by omega
    have q2 : (4 : Int) ≤ (l.length : Int) := by omega
    have hex : (bs l).extract 0 4 = bs (l.take 4) := bs_take l 4
    have hex2 : (bs l).extract 4 l.length = bs (l.drop 4) := bs_drop l 4
    have ht : (l.take 4).length = 4 := by rw [List.length_take]; omega
    have hh : hex4 l = (hex4 (l.take 4)).map (fun p => (p.1, l.drop 4)) := hexGo_take 4 0 l (by omega)
    have HH := Lib.hid hh
    have HP := Lib.hid (fun W hW => PUint_any a (l.take 4) ht W hW)
    cases hx : hex4 (l.take 4) with
    | none =>
      have HE : Hid (hex4 l = none) := Lib.hid (by rw [hh, hx]; rfl)
      rw [hx] at HP
      have HC := Lib.hid (CAny_any (bs (l.take 4)) (by rw [bs_size]; omega))
      clear hh hx
      generalize bs (l.take 4) = s4 at *
      go_enter Tryz.func109, Tryz.ntmps109
      go_wp2_with fail
      refine (HC.out _).mono ?_
      rintro e w1 ⟨b, rfl, hb1⟩
      have HR1 := Lib.hid (HR.out.below hb1)
      have HB1 := Lib.hid hb1
      clear hb1
      have c1 := HR1.out.c0
      have lR1 := HR1.out.lt
      cases b with
      | true =>
        go_wp2_with fail
        go_ret2
        exact .inr ⟨HE.out, rfl, HR1.out, but_below' HB1.out⟩
      | false =>
        go_wp2_with fail
        refine (HP.out _ (HW.out.keep HB1.out)).mono ?_
        rintro e w2 ⟨(⟨n, h1, _⟩ | ⟨_, tp, p, rfl⟩), hb2⟩
        · cases h1
        · have HR2 := Lib.hid (HR1.out.below hb2)
          have HB2 := Lib.hid (HB1.out.trans (hb2.mono HB1.out.size))
          clear hb2
          go_wp2_with fail
          go_ret2
          exact .inr ⟨HE.out, rfl, HR2.out, but_below' HB2.out⟩
    | some p =>
      obtain ⟨n, r⟩ := p
      have hr : r = [] := by have := hex4_len hx; rw [ht] at this; exact List.length_eq_zero_iff.1 (by omega)
      subst hr
      have HE : Hid (hex4 l = some (n, l.drop 4)) := Lib.hid (by rw [hh, hx]; rfl)
      have hall := hexGo_all 4 0 (l.take 4) _ hx
      rw [List.take_take, Nat.min_self] at hall
      have hca : Lib.containsAny (bs (l.take 4)).data.toList signsB.data.toList = false := by
        rw [bs_list]
        exact cany_no (fun b hb => by
          obtain ⟨_, h1, h2, h3⟩ := hall b hb
          simp [h1, h2, h3])
      have hC := fun W => Lay_strings_ContainsAny_laid (bs (l.take 4)) signsB W (by rw [bs_size]; omega) (by decide) (fun j b hb => (hall b (by rw [bs_list] at hb; exact List.mem_of_getElem? hb)).1) (fun j b hb => by
        have := List.mem_of_getElem? hb
        simp at this
        rcases this with rfl | rfl | rfl <;> decide)
      rw [hca] at hC
      have HC := Lib.hid hC
      rw [hx] at HP
      clear hh hx hall hca hC
      generalize bs (l.take 4) = s4 at *
      go_enter Tryz.func109, Tryz.ntmps109
      go_wp2_with fail
      refine (HC.out _).mono ?_
      rintro e w1 ⟨rfl, hb1⟩
      have HR1 := Lib.hid (HR.out.below hb1)
      have HB1 := Lib.hid hb1
      clear hb1
      have c1 := HR1.out.c0
      have lR1 := HR1.out.lt
      go_wp2_with fail
      refine (HP.out _ (HW.out.keep HB1.out)).mono ?_
      rintro e w2 ⟨(⟨n', h1, h2, rfl⟩ | ⟨h1, _⟩), hb2⟩
      · obtain ⟨rfl, _⟩ := Prod.mk.inj (Option.some.inj h1)
        have HR2 := Lib.hid (HR1.out.below hb2)
        have HB2 := Lib.hid (HB1.out.trans (hb2.mono HB1.out.size))
        clear hb2 h1
        have c2 := HR2.out.c0
        have lR2 := HR2.out.lt
        have z2 := HR2.out.z 0
        have HF := Lib.hid (show Steps w (w2.setCell ⟨R, 0, none⟩ (.string (bs (l.drop 4)))) R (l.drop 4) nest ev from ⟨HR2.out.put0 _, (but_below' HB2.out).trans (Lz.KeptBut.setT _ _ _ _ _)⟩)
        go_wp2_with fail
        go_ret2
        exact .inl ⟨n, l.drop 4, HE.out, h2, rfl, HF.out⟩
      · cases h1
end Go.Proofs.YtamclieppbnpiabGreatDoor
