/-
  A number's digits, a frame, where a head ends: by the document's program text.
-/
import Derived.Test.YtjlehlkkgkplmaaDoorProg
import Derived.Test.YtjlehlkkgkplmaaDoorReg
import Derived.WalkKit
import Derived.WalkSpells
import Derived.WalkLawsBesides
import Derived.Lib.Hide
import Derived.Lib.MinMax
import Derived.Deep.QuietTactic
import Derived.BigQuiet
import Derived.OwnWalk
import Derived.Deep.AppendLies
import Derived.KernelRfl
import Derived.Test.YtjlehlkkgkplmaaDoorFrG
import Derived.Test.YtjlehlkkgkplmaaDoorFrM
import Derived.Test.YtjlehlkkgkplmaaDoorFrH
set_option linter.unusedSimpArgs false
set_option linter.unusedVariables false
namespace Go.Proofs.YtjlehlkkgkplmaaDoor
open Go Go.RowKit

theorem beq_list_yes {a : ByteArray} {l : List UInt8} (h : a.data.toList = l) : (a.toList == l) = true := by
  rw [ByteArray.toList_eq, h]; simp
theorem beq_list_no {a : ByteArray} {l : List UInt8} (h : a.data.toList ≠ l) : (a.toList == l) = false := by
  rw [ByteArray.toList_eq]; simpa using h
theorem digs_low {n : Nat} (h : n < 10) : digs n = [UInt8.ofNat (48 + n)] := by rw [digs_dec, Lib.decDigits, dif_pos h]
theorem digs_high {n : Nat} (h : ¬ n < 10) : digs n = digs (n / 10) ++ digs (n % 10) := by
  rw [digs_low (Nat.mod_lt n (by omega)), digs_dec, Lib.decDigits, dif_neg h, digs_dec]
theorem digs_size : ∀ (k n : Nat), n ≤ k → (digs n).length ≤ n + 1
  | 0, n, h => by
    obtain rfl : n = 0 := by omega
    rw [digs_low (by omega)]
    simp
  | k + 1, n, h => by
    by_cases h10 : n < 10
    · rw [digs_low h10]
      simp
    · have := digs_size k (n / 10) (by omega)
      rw [digs_high h10, digs_low (Nat.mod_lt n (by omega)), List.length_append, List.length_singleton]
      omega

set_option maxRecDepth 100000 in
set_option maxHeartbeats 8000000 in
theorem Digits_low (n : Nat) (w : World) (h10 : n < 10) :
    Calls Tryd.prog 24 #[.int .i64 n] w fun e w' => e = .returned (.string ⟨(digs n).toArray⟩) ∧ Below w.heap.size w w' := by
  have q2 : (n : Int) < 10 := by omega
  have q3 : ((n : Int) < 0) = False := by simp
  have HD := Lib.hid (digs_low h10)
  have hn : (UInt8.ofNat (48 + n)).toNat = 48 + n := by simp; omega
  generalize UInt8.ofNat (48 + n) = x at *
  have hb : bv [x] = [.int .u8 (48 + (n : Int))] := by
    unfold bv
    rw [List.map_cons, hn]
    simp
  have hrow := heap_alloc_new w (.cells #[.int .u8 (48 + (n : Int))] 5)
  have hst := run_string_of_cells (P := Tryd.prog) (c := 1) (l := [x]) (w := w.alloc (.cells #[.int .u8 (48 + (n : Int))] 5)) (g := w.heap.size) (t := 5) (fr := (0, 0)) 48 9 5 Tryd.underlying48 Tryd.underlying5 Tryd.underlying9 (by rw [hb]; exact hrow)
  rw [List.length_singleton] at hst
  clear hrow hb hn
  go_enter Tryd.func24, Tryd.ntmps24
  go_wp2_with fail
  go_ret
  rw [HD.out]
  exact ⟨rfl, below_new _ _⟩
set_option maxRecDepth 100000 in
set_option maxHeartbeats 8000000 in
theorem Digits_any : ∀ (k n : Nat) (w : World), n ≤ k → n ≤ 1000000 →
    Calls Tryd.prog 24 #[.int .i64 n] w fun e w' => e = .returned (.string ⟨(digs n).toArray⟩) ∧ Below w.heap.size w w' := by
  intro k
  induction k with
  | zero =>
    intro n w h0 _
    exact Digits_low n w (by omega)
  | succ k ih =>
    intro n w h0 hn
    by_cases h10 : n < 10
    · exact Digits_low n w h10
    · have q1 : ¬ (n : Int) < 0 := by omega
      have q2 : ¬ (n : Int) < 10 := by omega
      have HD := Lib.hid (digs_high h10)
      have H1 := Lib.hid (fun u => (by have := ih (n / 10) u (by omega) (by omega); rw [Int.natCast_ediv] at this; exact this : Calls Tryd.prog 24 #[.int .i64 ((n : Int) / 10)] u fun e w' => e = .returned (.string ⟨(digs (n / 10)).toArray⟩) ∧ Below u.heap.size u w'))
      have H2 := Lib.hid (fun u => (by have := ih (n % 10) u (by omega) (by omega); rw [Int.natCast_emod] at this; exact this : Calls Tryd.prog 24 #[.int .i64 ((n : Int) % 10)] u fun e w' => e = .returned (.string ⟨(digs (n % 10)).toArray⟩) ∧ Below u.heap.size u w'))
      have s1 := digs_size _ (n / 10) (Nat.le_refl _)
      have s2 := digs_size _ (n % 10) (Nat.le_refl _)
      obtain ⟨D1, hD1⟩ : ∃ D1 : ByteArray, D1 = ⟨(digs (n / 10)).toArray⟩ := ⟨_, rfl⟩
      obtain ⟨D2, hD2⟩ : ∃ D2 : ByteArray, D2 = ⟨(digs (n % 10)).toArray⟩ := ⟨_, rfl⟩
      have z1 : D1.size ≤ 1000001 := by rw [hD1]; show (digs (n / 10)).length ≤ _; omega
      have z2 : D2.size ≤ 1000001 := by rw [hD2]; show (digs (n % 10)).length ≤ _; omega
      rw [← hD1] at H1
      rw [← hD2] at H2
      have HE : Hid (D1 ++ D2 = ⟨(digs n).toArray⟩) := Lib.hid (by rw [HD.out, hD1, hD2]; apply text_inj; simp [ByteArray.data_append])
      clear ih hD1 hD2 s1 s2
      go_enter Tryd.func24, Tryd.ntmps24
      go_wp2_with fail
      refine (H1.out _).mono ?_
      rintro e w1 ⟨rfl, hb1⟩
      go_wp2_with fail
      refine (H2.out _).mono ?_
      rintro e w2 ⟨rfl, hb2⟩
      have HB := Lib.hid (hb1.trans (hb2.mono hb1.size))
      clear hb1 hb2 H1 H2
      go_wp2_with fail
      go_ret
      rw [← HE.out]
      exact ⟨rfl, HB.out⟩
theorem Digs_any (n : Nat) (w : World) (h : n ≤ 1000000) :
    Calls Tryd.prog 24 #[.int .i64 n] w fun e w' => e = .returned (.string ⟨(digs n).toArray⟩) ∧ Below w.heap.size w w' := Digits_any n n w (Nat.le_refl _) h

set_option maxRecDepth 100000 in
set_option maxHeartbeats 8000000 in
theorem RPut_any (b : ByteArray) (w : World) (hb : b.size ≤ 1000000) :
    Calls Tryd.prog 12 #[.string b] w fun e w' => e = .returned (.tuple #[.string (putB b).1, .int .i64 (putB b).2]) ∧ Below w.heap.size w w' := by
  by_cases hbig : 9000 < b.size
  · have q : (9000 : Int) < (b.size : Int) := by omega
    have HP : Hid (putB b = (⟨#[]⟩, 160)) := Lib.hid (if_pos hbig)
    clear hbig
    go_enter Tryd.func12, Tryd.ntmps12
    go_wp2_with fail
    go_ret2
    rw [HP.out]
    exact ⟨rfl, Below.refl _ _⟩
  · have q : ¬ (9000 : Int) < (b.size : Int) := by omega
    obtain ⟨I, hI⟩ : ∃ I : ByteArray, I = ⟨(digs b.size).toArray⟩ := ⟨_, rfl⟩
    have hIt := Digs_any b.size w hb
    rw [← hI] at hIt
    have hId : I.data.toList = digs b.size := by rw [hI]
    have hIz : I.size ≤ 4 := by
      have := numOK_len (n := b.size) (by omega)
      rw [← hId] at this
      exact this.2
    have hz : b.data.toList.length = b.size := rfl
    have HP : Hid (putB b = ((⟨#[67, 111, 110, 116, 101, 110, 116, 45, 76, 101, 110, 103, 116, 104, 58, 32]⟩ : ByteArray) ++ I ++ (⟨#[13, 10, 13, 10]⟩ : ByteArray) ++ b, 0)) := Lib.hid (by
      unfold putB
      rw [if_neg hbig]
      congr 1
      apply text_inj
      simp only [ByteArray.data_append, Array.toList_append, hId]
      unfold putL headOf lengthName
      rw [hz]
      simp)
    have HI := Lib.hid hIt
    clear hIt hI hId hbig hz
    go_enter Tryd.func12, Tryd.ntmps12
    go_wp2_with fail
    refine HI.out.mono ?_
    rintro e w1 ⟨rfl, hb1⟩
    have HB1 := Lib.hid hb1
    clear hb1 HI
    go_wp2_with fail
    go_ret2
    rw [HP.out]
    exact ⟨rfl, HB1.out⟩

/-- Where a head ends, with all ends; 0: not within a hundred bytes. -/
def endB (s : ByteArray) : Nat := match endOf (s.data.toList.take 100) with
  | none => 0
  | some i => i + 4
set_option maxRecDepth 100000 in
set_option maxHeartbeats 8000000 in
theorem end_any (s : ByteArray) (w : World) (hs : s.size ≤ 1000000) :
    Calls Tryd.prog 26 #[.string s] w fun e w' => e = .returned (.int .i64 (endB s)) ∧ w' = w := by
  have hz : s.data.toList.length = s.size := rfl
  have hin : ∀ j, j + 4 ≤ s.size → j + 4 ≤ 100 → ((s.data.toList.take 100).drop j).take 4 = (s.extract j (j + 4)).data.toList := fun j h1 h2 => by
    rw [extract_data _ _ _ h1, Nat.add_sub_cancel_left, List.drop_take, List.take_take, Nat.min_eq_left (by omega)]
  have HIn := Lib.hid hin
  clear hin
  go_enter Tryd.func26, Tryd.ntmps26
  go_wp2_with fail
  go_loopw [3] (fun i wr => ∃ (k : Nat), i = .int .i64 k ∧ k ≤ s.size ∧ k ≤ 100 ∧ Hid (∀ j : Nat, j < k → ((s.data.toList.take 100).drop j).take 4 ≠ [13, 10, 13, 10]) ∧ w = wr) (fun i _ => 200 - (intOf i).toNat)
  case atStart => exact ⟨0, rfl, by omega, by omega, Lib.hid (fun j h => by omega), rfl⟩
  case round =>
    obtain ⟨k, rfl, hk1, hk2, HN, rfl⟩ := hrel
    have i0 : (0 : Int) ≤ (k : Int) := by omega
    by_cases h1 : k + 4 ≤ s.size
    · have i1 : (k : Int) + 4 ≤ (s.size : Int) := by omega
      by_cases h2 : k + 4 ≤ 100
      · have i2 : (k : Int) + 4 ≤ 100 := by omega
        have hx := HIn.out k h1 h2
        by_cases hc : (s.extract k (k + 4)).data.toList = [13, 10, 13, 10]
        · have q := beq_list_yes hc
          have HE : Hid (endB s = k + 4) := Lib.hid (by
            unfold endB
            rw [endOf_at _ k HN.out (by rw [hx, hc])])
          clear hx hc
          go_wp2_with fail
          go_ret
          rw [HE.out]
          exact ⟨rfl, rfl⟩
        · have q := beq_list_no hc
          have HN2 : Hid (∀ j : Nat, j < k + 1 → ((s.data.toList.take 100).drop j).take 4 ≠ [13, 10, 13, 10]) := Lib.hid (fun j hj e => by
            by_cases hjk : j = k
            · subst hjk
              rw [hx] at e
              exact hc e
            · exact HN.out j (by omega) e)
          clear hx hc
          go_wp2_with fail
          go_roundw
          case rel => exact ⟨k + 1, by go_num, by omega, by omega, HN2, trivial⟩
          case measure => simp [intOf]; omega
      · have i2 : ¬ (k : Int) + 4 ≤ 100 := by omega
        have HE : Hid (endB s = 0) := Lib.hid (by
          unfold endB
          rw [endOf_no _ (fun j hj => HN.out j (by rw [List.length_take, hz] at hj; omega))])
        clear HN
        go_wp2_with fail
        go_ret
        rw [HE.out]
        exact ⟨rfl, rfl⟩
    · have i1 : ¬ (k : Int) + 4 ≤ (s.size : Int) := by omega
      have HE : Hid (endB s = 0) := Lib.hid (by
        unfold endB
        rw [endOf_no _ (fun j hj => HN.out j (by rw [List.length_take, hz] at hj; omega))])
      clear HN
      go_wp2_with fail
      go_ret
      rw [HE.out]
      exact ⟨rfl, rfl⟩
end Go.Proofs.YtjlehlkkgkplmaaDoor
