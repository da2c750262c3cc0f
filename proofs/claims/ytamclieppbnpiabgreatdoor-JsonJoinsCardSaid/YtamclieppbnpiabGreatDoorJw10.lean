/-
  What stands behind a backslash: by the program.
-/
import Derived.Test.YtamclieppbnpiabGreatDoorProg
import Derived.Test.YtamclieppbnpiabGreatDoorReg
import Derived.WalkKit
import Derived.WalkSpells
import Derived.WalkLawsBesides
import Derived.Lib.Hide
import Derived.Lib.MinMax
import Derived.Deep.QuietTactic
import Derived.BigQuiet
import Derived.OwnWalk
import Derived.Deep.AppendLies
import Derived.KernelRfl
import Derived.Test.YtamclieppbnpiabGreatDoorJw1
import Derived.Test.YtamclieppbnpiabGreatDoorJw9
set_option linter.unusedSimpArgs false
set_option linter.unusedVariables false
namespace Go.Proofs.YtamclieppbnpiabGreatDoor
open Go Go.RowKit Go.Maps
open Fz (HoldsS)

/-- What the map of escapes holds. -/
def escLook (g : Int) : Option Value := if g = 116 then some (.string (⟨#[9]⟩)) else if g = 114 then some (.string (⟨#[13]⟩)) else if g = 110 then some (.string (⟨#[10]⟩)) else if g = 102 then some (.string (⟨#[12]⟩)) else if g = 98 then some (.string (⟨#[8]⟩)) else if g = 47 then some (.string (⟨#[47]⟩)) else if g = 92 then some (.string (⟨#[92]⟩)) else if g = 34 then some (.string (⟨#[34]⟩)) else none
set_option maxRecDepth 100000 in
set_option maxHeartbeats 4000000 in
theorem escaped_any (w : World) : Calls Tryz.prog 108 #[] w fun e w' => ∃ M, e = .returned (.map (some M)) ∧ MapIsU w' Tryz.prog 5 M 8 escLook ∧ Below w.heap.size w w' := by
  have hmm := @run_makeMap Tryz.prog
  have hk := Tryz.underlying5
  have ht := Tryz.underlying169
  have hb0 : Below w.heap.size w (w.alloc (.map #[] 0)) := below_new w _
  have st : ∀ {p q : World}, Below w.heap.size w p → p.grownBy q (some w.heap.size) → Below w.heap.size w q := fun hp hg => hp.grown hg hp.size (fun k hk => by cases hk; omega)
  have m0 := MapIsU.made w Tryz.prog 5
  obtain ⟨w1, r1, m1, g1⟩ := m0.put hk ht (by unfold maxLen; omega) 34 (by decide) (.string (⟨#[34]⟩))
  have hb1 := st hb0 g1
  clear hb0 g1 m0
  obtain ⟨w2, r2, m2, g2⟩ := m1.put hk ht (by unfold maxLen; omega) 92 (by decide) (.string (⟨#[92]⟩))
  have hb2 := st hb1 g2
  clear hb1 g2 m1
  obtain ⟨w3, r3, m3, g3⟩ := m2.put hk ht (by unfold maxLen; omega) 47 (by decide) (.string (⟨#[47]⟩))
  have hb3 := st hb2 g3
  clear hb2 g3 m2
  obtain ⟨w4, r4, m4, g4⟩ := m3.put hk ht (by unfold maxLen; omega) 98 (by decide) (.string (⟨#[8]⟩))
  have hb4 := st hb3 g4
  clear hb3 g4 m3
  obtain ⟨w5, r5, m5, g5⟩ := m4.put hk ht (by unfold maxLen; omega) 102 (by decide) (.string (⟨#[12]⟩))
  have hb5 := st hb4 g5
  clear hb4 g5 m4
  obtain ⟨w6, r6, m6, g6⟩ := m5.put hk ht (by unfold maxLen; omega) 110 (by decide) (.string (⟨#[10]⟩))
  have hb6 := st hb5 g6
  clear hb5 g6 m5
  obtain ⟨w7, r7, m7, g7⟩ := m6.put hk ht (by unfold maxLen; omega) 114 (by decide) (.string (⟨#[13]⟩))
  have hb7 := st hb6 g7
  clear hb6 g7 m6
  obtain ⟨w8, r8, m8, g8⟩ := m7.put hk ht (by unfold maxLen; omega) 116 (by decide) (.string (⟨#[9]⟩))
  have hb8 := st hb7 g8
  clear hb7 g8 m7
  have HF := Lib.hid (show MapIsU w8 Tryz.prog 5 w.heap.size 8 escLook from m8)
  have HB := Lib.hid hb8
  clear m8 hb8 st hk ht
  go_enter Tryz.func108, Tryz.ntmps108
  go_wp2_with fail
  go_ret
  exact ⟨w.heap.size, rfl, HF.out, HB.out⟩

theorem u8_of (k : Nat) (z : Int) (h : z = (k : Int)) : UInt8.ofNat k = z.toNat.toUInt8 := by subst h; rfl
theorem cons2 {a b : UInt8} {l m : List UInt8} (h : a = b) (h2 : l = m) : a :: l = b :: m := by rw [h, h2]
theorem enc_bs (r : Int) (h0 : 0 ≤ r) (h1 : r ≤ 1114111) : Utf8.encode r = bs (Lib.encodeRune r) := by
  obtain ⟨n, rfl⟩ : ∃ n : Nat, r = (n : Int) := ⟨r.toNat, by omega⟩
  have e : (Utf8.encode (n : Int)).data.toList = Lib.encodeRune (n : Int) := by
    unfold Utf8.encode Lib.encodeRune
    by_cases hv : Utf8.valid (n : Int) = true
    · have hv' : (n < 55296) ∨ (57344 ≤ n) := by
        unfold Utf8.valid at hv
        simp at hv
        omega
      simp only [hv, if_true, Int.toNat_natCast]
      by_cases a : n < 128
      · rw [if_pos a, Lib.encodeRuneZ_one (by omega) (by omega)]
        simp
      · by_cases b : n < 2048
        · rw [if_neg a, if_pos b, Lib.encodeRuneZ_two (by omega) (by omega)]
          exact cons2 (u8_of _ _ (by omega)) (cons2 (u8_of _ _ (by omega)) rfl)
        · by_cases c : n < 65536
          · rw [if_neg a, if_neg b, if_pos c, Lib.encodeRuneZ_three (by omega)]
            exact cons2 (u8_of _ _ (by omega)) (cons2 (u8_of _ _ (by omega)) (cons2 (u8_of _ _ (by omega)) rfl))
          · rw [if_neg a, if_neg b, if_neg c, Lib.encodeRuneZ_four (by omega) (by omega)]
            exact cons2 (u8_of _ _ (by omega)) (cons2 (u8_of _ _ (by omega)) (cons2 (u8_of _ _ (by omega)) (cons2 (u8_of _ _ (by omega)) rfl)))
    · have hv' : 55296 ≤ n ∧ n < 57344 := by
        unfold Utf8.valid at hv
        simp at hv
        omega
      simp only [hv, Bool.false_eq_true, if_false]
      rw [Lib.encodeRuneZ_bad (by omega)]
      rfl
  rw [← bs_of (Utf8.encode (n : Int)), e]
def escN (g : Int) : Option UInt8 := if g = 116 then some 9 else if g = 114 then some 13 else if g = 110 then some 10 else if g = 102 then some 12 else if g = 98 then some 8 else if g = 47 then some 47 else if g = 92 then some 92 else if g = 34 then some 34 else none
theorem escN_look (g : Int) : escLook g = (escN g).map (fun x => Value.string (bs [x])) := by
  unfold escLook escN
  repeat' split
  all_goals rfl
theorem esc_look (l : List UInt8) : escLook (firstB l) = (match l with | [] => none | c :: _ => simpleL c).map (fun x => Value.string (bs [x])) := by
  cases l with
  | nil => rfl
  | cons c r =>
    have := byte_all (p := fun c => escN (c.toNat : Int) == simpleL c) (by decide +kernel) c
    show escLook (c.toNat : Int) = _
    rw [escN_look, beq_iff_eq.1 this]
theorem firstB_lt (l : List UInt8) : firstB l < 256 := by
  cases l with
  | nil => decide
  | cons c r => exact c.toNat_lt
theorem wf_byte {n : Nat} (h : n < 256) : (Lit.int .u8 (n : Int)).wf = true := by
  have e1 : IntKind.u8.min = 0 := by decide
  have e2 : IntKind.u8.max = 255 := by decide
  simp [Lit.wf, e1, e2]
  omega
/-- Behind the letter of four digits. -/
def escU (l : List UInt8) : Except Int (List UInt8 × List UInt8) := match hex4 l with
  | none => .error 150
  | some (n, r) => if n < 55296 ∨ 57343 < n then .ok (Lib.encodeRune (n : Int), r) else if 56320 ≤ n then .error 152 else secondL n r
theorem escape_simple {c x : UInt8} {r : List UInt8} (h : some x = simpleL c) : escapeL (c :: r) = .ok ([x], r) := by unfold escapeL; simp only; rw [← h]
theorem escape_other {l : List UInt8} (h : none = (match l with | [] => none | c :: _ => simpleL c)) : escapeL l = (match takeP [117] l with | none => .error 150 | some q => escU q) := by
  cases l with
  | nil => rfl
  | cons c r =>
    simp only at h
    unfold escapeL escU
    simp only
    rw [← h]
    by_cases hc : c = 117
    · subst hc; simp [takeP]; rfl
    · simp [takeP, hc, Ne.symm hc]
/-- What stands behind a backslash. -/
def EscPost (a : Addr) (R : Nat) (nest : Int) (E : Except Int (List UInt8 × List UInt8)) (e : Ending) (w w' : World) : Prop :=
  match E with
  | .ok (t, q) => e = .returned (.string (bs t)) ∧ Steps w w' R q nest .nilIface
  | .error c => e = .returned (.string (bs [])) ∧ ∃ q, Steps w w' R q nest (errV a c)
set_option maxRecDepth 100000 in
set_option maxHeartbeats 4000000 in
theorem escape_some (a : Addr) (R : Nat) (c : UInt8) (r : List UInt8) (nest : Int) (w : World) (h : RdAt w R (c :: r) nest .nilIface) (hW : WJ a w) (x : UInt8) (ho : some x = simpleL c) :
    Calls Tryz.prog 93 #[.pointer (some ⟨R, 0, none⟩)] w fun e w' => EscPost a R nest (.ok ([x], r)) e w w' := by
  have lR := h.lt
  have HR := Lib.hid h
  have HW := Lib.hid hW
  clear h hW
  have HO := Lib.hid ((esc_look (c :: r)).trans (congrArg (Option.map _) ho.symm))
  have HS := Lib.hid (@escaped_any)
  have HF := Lib.hid (@first_any)
  have hk := Tryz.underlying5
  have ht := Tryz.underlying169
  clear ho
  go_enter Tryz.func93, Tryz.ntmps93
  go_wp2_with fail
  refine wp_region_four (S := fun _ => True) [1, 2, 3] [0, 4, 5, 6] [7, 8] [9, 10] (by kernel_rfl) (by kernel_rfl) (fun _ _ _ _ _ h => h) trivial ?_
  simp only [pick, List.filterMap_cons, List.filterMap_nil, List.getElem?_toArray, List.getElem?_cons_zero, List.getElem?_cons_succ]
  repeat (refine wpHead_step (v := ?_) rfl ?_ ?_; rotate_left; (focus (rintro w1 _; go_simp; try with_reducible rfl)); simp only [Act.put, List.setIfInBounds_toArray, List.set_cons_zero, List.set_cons_succ])
  refine wpHead_nil ?_
  refine wpTailK_step rfl (fun K hK => ?_)
  go_wp2_with fail
  refine (HS.out w.drew).mono ?_
  rintro e w1 ⟨M, rfl, hm, hb⟩
  have hget := hm.get true hk ht (z := .string ⟨#[]⟩) (by kernel_rfl) (firstB (c :: r)) (wf_byte (firstB_lt (c :: r)))
  rw [HO.out] at hget
  simp only [reduceIte, Option.map_some, Option.map_none, Option.getD_some, Option.getD_none, Option.isSome_some, Option.isSome_none] at hget
  have HB1 := Lib.hid ((Below.refl w.heap.size w).drew.trans hb)
  clear hb hm
  refine hK _ _ trivial ?_
  clear hK K
  try simp only [Act.put, List.setIfInBounds_toArray, List.set_cons_zero, List.set_cons_succ]
  refine wpTailK_step rfl (fun K hK => ?_)
  go_wp2_with fail
  refine (HF.out R (c :: r) w1 (HR.out.below HB1.out).c0).mono ?_
  rintro e w9 ⟨rfl, hw⟩
  subst w9
  refine hK _ _ trivial ?_
  clear hK K
  try simp only [Act.put, List.setIfInBounds_toArray, List.set_cons_zero, List.set_cons_succ]
  refine wpTailK_step rfl (fun K hK => ?_)
  go_wp2_with fail
  refine hK _ _ trivial ?_
  clear hK K
  try simp only [Act.put, List.setIfInBounds_toArray, List.set_cons_zero, List.set_cons_succ]
  refine wpTailK_step rfl (fun K hK => ?_)
  go_wp2_with fail
  refine hK _ _ trivial ?_
  clear hK K
  try simp only [Act.put, List.setIfInBounds_toArray, List.set_cons_zero, List.set_cons_succ]
  refine wpTailK_nil ?_
  repeat (refine wpHead_step (v := ?_) rfl ?_ ?_; rotate_left; (focus (rintro w1 _; go_simp; try with_reducible rfl)); simp only [Act.put, List.setIfInBounds_toArray, List.set_cons_zero, List.set_cons_succ])
  refine wpHead_nil ?_
  refine wpTail_step rfl (fun K hK => ?_)
  go_wp2_with fail
  refine hK _ _ trivial ?_
  clear hK K
  try simp only [Act.put, List.setIfInBounds_toArray, List.set_cons_zero, List.set_cons_succ]
  refine wpTail_step rfl (fun K hK => ?_)
  go_wp2_with fail
  refine hK _ _ trivial ?_
  clear hK K
  try simp only [Act.put, List.setIfInBounds_toArray, List.set_cons_zero, List.set_cons_succ]
  refine wpTail_nil ?_
  clear hget
  have HR1 := Lib.hid (HR.out.below HB1.out)
  have HW1 := Lib.hid (HW.out.keep HB1.out)
  have hz1 := HB1.out.size
  have c0 := HR1.out.c0
  have lR1 := HR1.out.lt
  have z1 := HR1.out.z 0
  have hsz : (bs (c :: r)).size = r.length + 1 := by rw [bs_size]; rfl
  have k1 : (1 : Int) ≤ ((r.length + 1 : Nat) : Int) := by omega
  have hex : (bs (c :: r)).extract 1 (r.length + 1) = bs r := bs_drop (c :: r) 1
  have HFin := Lib.hid (show Steps w (w1.setCell ⟨R, 0, none⟩ (.string (bs r))) R r nest .nilIface from ⟨HR1.out.put0 _, (but_below' HB1.out).trans (Lz.KeptBut.setT _ _ _ _ _)⟩)
  go_wp2_with fail
  go_ret
  exact ⟨rfl, HFin.out⟩
set_option maxRecDepth 100000 in
set_option maxHeartbeats 4000000 in
theorem escape_none (a : Addr) (R : Nat) (l : List UInt8) (nest : Int) (w : World) (h : RdAt w R l nest .nilIface) (hl : l.length ≤ 100000000) (hW : WJ a w) (hR : 9 ≤ R) (ho : none = (match l with | [] => none | c :: _ => simpleL c)) (E : Except Int (List UInt8 × List UInt8)) (hE : E = escapeL l) :
    Calls Tryz.prog 93 #[.pointer (some ⟨R, 0, none⟩)] w fun e w' => EscPost a R nest E e w w' := by
  have lR := h.lt
  have HR := Lib.hid h
  have HW := Lib.hid hW
  clear h hW
  have HE := Lib.hid (hE.trans (escape_other ho))
  clear hE
  have HO := Lib.hid ((esc_look l).trans (congrArg (Option.map _) ho.symm))
  have HS := Lib.hid (@escaped_any)
  have HF := Lib.hid (@first_any)
  have hk := Tryz.underlying5
  have ht := Tryz.underlying169
  clear ho
  go_enter Tryz.func93, Tryz.ntmps93
  go_wp2_with fail
  refine wp_region_four (S := fun _ => True) [1, 2, 3] [0, 4, 5, 6] [7, 8] [9, 10] (by kernel_rfl) (by kernel_rfl) (fun _ _ _ _ _ h => h) trivial ?_
  simp only [pick, List.filterMap_cons, List.filterMap_nil, List.getElem?_toArray, List.getElem?_cons_zero, List.getElem?_cons_succ]
  repeat (refine wpHead_step (v := ?_) rfl ?_ ?_; rotate_left; (focus (rintro w1 _; go_simp; try with_reducible rfl)); simp only [Act.put, List.setIfInBounds_toArray, List.set_cons_zero, List.set_cons_succ])
  refine wpHead_nil ?_
  refine wpTailK_step rfl (fun K hK => ?_)
  go_wp2_with fail
  refine (HS.out w.drew).mono ?_
  rintro e w1 ⟨M, rfl, hm, hb⟩
  have hget := hm.get true hk ht (z := .string ⟨#[]⟩) (by kernel_rfl) (firstB l) (wf_byte (firstB_lt l))
  rw [HO.out] at hget
  simp only [reduceIte, Option.map_some, Option.map_none, Option.getD_some, Option.getD_none, Option.isSome_some, Option.isSome_none] at hget
  have HB1 := Lib.hid ((Below.refl w.heap.size w).drew.trans hb)
  clear hb hm
  refine hK _ _ trivial ?_
  clear hK K
  try simp only [Act.put, List.setIfInBounds_toArray, List.set_cons_zero, List.set_cons_succ]
  refine wpTailK_step rfl (fun K hK => ?_)
  go_wp2_with fail
  refine (HF.out R l w1 (HR.out.below HB1.out).c0).mono ?_
  rintro e w9 ⟨rfl, hw⟩
  subst w9
  refine hK _ _ trivial ?_
  clear hK K
  try simp only [Act.put, List.setIfInBounds_toArray, List.set_cons_zero, List.set_cons_succ]
  refine wpTailK_step rfl (fun K hK => ?_)
  go_wp2_with fail
  refine hK _ _ trivial ?_
  clear hK K
  try simp only [Act.put, List.setIfInBounds_toArray, List.set_cons_zero, List.set_cons_succ]
  refine wpTailK_step rfl (fun K hK => ?_)
  go_wp2_with fail
  refine hK _ _ trivial ?_
  clear hK K
  try simp only [Act.put, List.setIfInBounds_toArray, List.set_cons_zero, List.set_cons_succ]
  refine wpTailK_nil ?_
  repeat (refine wpHead_step (v := ?_) rfl ?_ ?_; rotate_left; (focus (rintro w1 _; go_simp; try with_reducible rfl)); simp only [Act.put, List.setIfInBounds_toArray, List.set_cons_zero, List.set_cons_succ])
  refine wpHead_nil ?_
  refine wpTail_step rfl (fun K hK => ?_)
  go_wp2_with fail
  refine hK _ _ trivial ?_
  clear hK K
  try simp only [Act.put, List.setIfInBounds_toArray, List.set_cons_zero, List.set_cons_succ]
  refine wpTail_step rfl (fun K hK => ?_)
  go_wp2_with fail
  refine hK _ _ trivial ?_
  clear hK K
  try simp only [Act.put, List.setIfInBounds_toArray, List.set_cons_zero, List.set_cons_succ]
  refine wpTail_nil ?_
  clear hget
  have HR1 := Lib.hid (HR.out.below HB1.out)
  have HW1 := Lib.hid (HW.out.keep HB1.out)
  have hz1 := HB1.out.size
  cases hq : takeP [117] l with
  | none =>
    have HT := Lib.hid (take_any R [117] l nest .nilIface w1 HR1.out)
    rw [hq] at HT HE
    clear hq
    go_wp2_with fail
    refine HT.out.mono ?_
    rintro e w2 ⟨rfl, hs⟩
    have HS2 := Lib.hid (show Steps w w2 R l nest .nilIface from ⟨hs.1, but_trans (but_below' HB1.out) hs.2 HB1.out.size⟩)
    have HW2 := Lib.hid (HW1.out.but hs.2 HW1.out.low hR)
    clear hs
    have HFl := Lib.hid (fail_new a R 150 l nest w2 HS2.out.1 HW2.out)
    go_wp2_with fail
    refine HFl.out.mono ?_
    rintro e w3 ⟨rfl, hs⟩
    have HS3 := Lib.hid (HS2.out.trans hs)
    clear hs
    go_wp2_with fail
    go_ret
    rw [HE.out]
    exact ⟨rfl, l, HS3.out⟩
  | some q =>
    have HT := Lib.hid (take_any R [117] l nest .nilIface w1 HR1.out)
    rw [hq] at HT HE
    have hql : q.length ≤ l.length := by rw [takeP_iff.1 hq]; simp
    have HQ := Lib.hid hql
    clear hq hql
    go_wp2_with fail
    refine HT.out.mono ?_
    rintro e w2 ⟨rfl, hs⟩
    have HS2 := Lib.hid (show Steps w w2 R q nest .nilIface from ⟨hs.1, but_trans (but_below' HB1.out) hs.2 HB1.out.size⟩)
    have HW2 := Lib.hid (HW1.out.but hs.2 HW1.out.low hR)
    clear hs
    have HN := Lib.hid (number_any' a R q nest .nilIface w2 HS2.out.1 (Nat.le_trans HQ.out hl) HW2.out)
    have HE2 := Lib.hid (show E = escU q from HE.out)
    clear HE
    go_wp2_with fail
    refine HN.out.mono ?_
    rintro e w3 (⟨n, r, hx, hn, rfl, hs⟩ | ⟨hx, rfl, hs⟩)
    · have HS3 := Lib.hid (HS2.out.trans hs)
      have HW3 := Lib.hid (HW2.out.but hs.2 HW2.out.low hR)
      have HE3 := HE2.out
      unfold escU at HE3
      rw [hx] at HE3
      have hrl := hex4_len hx
      simp only at HE3
      have HQ2 := Lib.hid (show r.length ≤ 100000000 by have := HQ.out; omega)
      clear hs hx hrl HE2
      by_cases c1 : n < 55296 ∨ 57343 < n
      · have HE4 := Lib.hid HE3
        rw [if_pos c1] at HE4
        clear HE3
        have he := enc_bs (n : Int) (by omega) (by omega)
        rcases c1 with c1 | c1
        · have k1 : (n : Int) < 55296 := by omega
          go_wp2_with fail
          go_ret
          rw [HE4.out]
          exact ⟨rfl, HS3.out⟩
        · have k1 : ¬ (n : Int) < 55296 := by omega
          have k2 : (57343 : Int) < (n : Int) := by omega
          go_wp2_with fail
          go_ret
          rw [HE4.out]
          exact ⟨rfl, HS3.out⟩
      · rw [if_neg c1] at HE3
        have k1 : ¬ (n : Int) < 55296 := by omega
        have k2 : ¬ (57343 : Int) < (n : Int) := by omega
        have HFl := Lib.hid (fun W r (hr : Steps w W R r nest .nilIface) (hw : WJ a W) => fail_new a R 152 r nest W hr.1 hw)
        by_cases c2 : 56320 ≤ n
        · rw [if_pos c2] at HE3
          have k3 : (56320 : Int) ≤ (n : Int) := by omega
          have HE4 := Lib.hid HE3
          clear HE3
          go_wp2_with fail
          refine (HFl.out _ _ HS3.out HW3.out).mono ?_
          rintro e w4 ⟨rfl, hs⟩
          have HS4 := Lib.hid (HS3.out.trans hs)
          clear hs
          go_wp2_with fail
          go_ret
          rw [HE4.out]
          exact ⟨rfl, _, HS4.out⟩
        · rw [if_neg c2] at HE3
          have k3 : decide ((56320 : Int) ≤ (n : Int)) = false := by simp; omega
          unfold secondL at HE3
          have HC := Lib.hid (And.intro c1 c2)
          clear c1 c2
          have HT2 := Lib.hid (take_any R [92, 117] r nest .nilIface w3 HS3.out.1)
          cases hq : takeP [92, 117] r with
          | none =>
            rw [hq] at HT2 HE3
            have HE4 := Lib.hid HE3
            clear HE3 hq
            go_wp2_with fail
            refine HT2.out.mono ?_
            rintro e w4 ⟨rfl, hs⟩
            have HS4 := Lib.hid (HS3.out.trans hs)
            have HW4 := Lib.hid (HW3.out.but hs.2 HW3.out.low hR)
            clear hs
            go_wp2_with fail
            refine (HFl.out _ _ HS4.out HW4.out).mono ?_
            rintro e w5 ⟨rfl, hs⟩
            have HS5 := Lib.hid (HS4.out.trans hs)
            clear hs
            go_wp2_with fail
            go_ret
            rw [HE4.out]
            exact ⟨rfl, _, HS5.out⟩
          | some q2 =>
            have HQ3 := Lib.hid (show q2.length ≤ 100000000 by have := HQ2.out; rw [takeP_iff.1 hq] at this; simp at this; omega)
            rw [hq] at HT2 HE3
            have HE4 := Lib.hid HE3
            clear HE3 hq
            go_wp2_with fail
            refine HT2.out.mono ?_
            rintro e w4 ⟨rfl, hs⟩
            have HS4 := Lib.hid (HS3.out.trans hs)
            have HW4 := Lib.hid (HW3.out.but hs.2 HW3.out.low hR)
            clear hs
            have HN2 := Lib.hid (number_any' a R q2 nest .nilIface w4 HS4.out.1 HQ3.out HW4.out)
            go_wp2_with fail
            refine HN2.out.mono ?_
            rintro e w5 (⟨m, r2, hx, hm, rfl, hs⟩ | ⟨hx, rfl, hs⟩)
            · have HS5 := Lib.hid (HS4.out.trans hs)
              have HW5 := Lib.hid (HW4.out.but hs.2 HW4.out.low hR)
              have HE5 := HE4.out
              rw [hx] at HE5
              simp only at HE5
              clear HE4 hx hs
              by_cases c3 : 56320 ≤ m
              · have k4 : (56320 : Int) ≤ (m : Int) := by omega
                by_cases c4 : m ≤ 57343
                · have k5 : (m : Int) ≤ 57343 := by omega
                  rw [if_pos ⟨c3, c4⟩] at HE5
                  have HE6 := Lib.hid HE5
                  clear HE5
                  obtain ⟨hc1, hc2⟩ := HC.out
                  have hz : ((65536 + (n - 55296) * 1024 + m - 56320 : Nat) : Int) = 65536 + ((n : Int) - 55296) * 1024 + (m : Int) - 56320 := by omega
                  have he := enc_bs (65536 + ((n : Int) - 55296) * 1024 + (m : Int) - 56320) (by omega) (by omega)
                  rw [← hz] at he
                  have HE7 := Lib.hid he
                  have HZ := Lib.hid hz
                  clear he hz hc1 hc2
                  go_wp2_with fail
                  go_ret
                  rw [HE6.out]
                  exact ⟨by rw [← HE7.out, HZ.out]; rfl, HS5.out⟩
                · have k5 : decide ((m : Int) ≤ 57343) = false := by simp; omega
                  rw [if_neg (fun h => c4 h.2)] at HE5
                  have HE6 := Lib.hid HE5
                  clear HE5
                  go_wp2_with fail
                  refine (HFl.out _ _ HS5.out HW5.out).mono ?_
                  rintro e w6 ⟨rfl, hs⟩
                  have HS6 := Lib.hid (HS5.out.trans hs)
                  clear hs
                  go_wp2_with fail
                  go_ret
                  rw [HE6.out]
                  exact ⟨rfl, _, HS6.out⟩
              · have k4 : decide ((56320 : Int) ≤ (m : Int)) = false := by simp; omega
                rw [if_neg (fun h => c3 h.1)] at HE5
                have HE6 := Lib.hid HE5
                clear HE5
                go_wp2_with fail
                refine (HFl.out _ _ HS5.out HW5.out).mono ?_
                rintro e w6 ⟨rfl, hs⟩
                have HS6 := Lib.hid (HS5.out.trans hs)
                clear hs
                go_wp2_with fail
                go_ret
                rw [HE6.out]
                exact ⟨rfl, _, HS6.out⟩
            · have HS5 := Lib.hid (HS4.out.trans hs)
              have HW5 := Lib.hid (HW4.out.but hs.2 HW4.out.low hR)
              have HE5 := HE4.out
              rw [hx] at HE5
              have HE6 := Lib.hid HE5
              clear HE4 HE5 hx hs
              go_wp2_with fail
              refine (HFl.out _ _ HS5.out HW5.out).mono ?_
              rintro e w6 ⟨rfl, hs⟩
              have HS6 := Lib.hid (HS5.out.trans hs)
              clear hs
              go_wp2_with fail
              go_ret
              rw [HE6.out]
              exact ⟨rfl, _, HS6.out⟩
    · have HS3 := Lib.hid (HS2.out.trans hs)
      have HW3 := Lib.hid (HW2.out.but hs.2 HW2.out.low hR)
      have HE3 := HE2.out
      unfold escU at HE3
      rw [hx] at HE3
      have HE4 := Lib.hid HE3
      clear hs hx HE2 HE3
      have HFl := Lib.hid (fail_new a R 150 q nest w3 HS3.out.1 HW3.out)
      go_wp2_with fail
      refine HFl.out.mono ?_
      rintro e w4 ⟨rfl, hs⟩
      have HS4 := Lib.hid (HS3.out.trans hs)
      clear hs
      go_wp2_with fail
      go_ret
      rw [HE4.out]
      exact ⟨rfl, _, HS4.out⟩
theorem escape_any (a : Addr) (R : Nat) (l : List UInt8) (nest : Int) (w : World) (h : RdAt w R l nest .nilIface) (hl : l.length ≤ 100000000) (hW : WJ a w) (hR : 9 ≤ R) :
    Calls Tryz.prog 93 #[.pointer (some ⟨R, 0, none⟩)] w fun e w' => EscPost a R nest (escapeL l) e w w' := by
  rcases ho : (match l with | [] => none | c :: _ => simpleL c) with _ | x
  · exact escape_none a R l nest w h hl hW hR ho.symm _ rfl
  · cases l with
    | nil => cases ho
    | cons c r =>
      have := escape_some a R c r nest w h hW x ho.symm
      rw [escape_simple ho.symm]
      exact this
end Go.Proofs.YtamclieppbnpiabGreatDoor
