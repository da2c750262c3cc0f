/-
  A node's show: by the program.
-/
import Derived.Test.YtbcgdkhkljeomaaDoorProg
import Derived.Test.YtbcgdkhkljeomaaDoorReg
import Derived.WalkKit
import Derived.WalkSpells
import Derived.WalkLawsBesides
import Derived.Lib.Hide
import Derived.Lib.MinMax
import Derived.Deep.QuietTactic
import Derived.BigQuiet
import Derived.OwnWalk
import Derived.Deep.AppendLies
import Derived.KernelRfl
import Derived.Test.YtbcgdkhkljeomaaDoorNdL
set_option linter.unusedSimpArgs false
set_option linter.unusedVariables false
namespace Go.Proofs.YtbcgdkhkljeomaaDoor
open Go.RowKit Go.Shelf

/-- A tree at work lies at block T. -/
def TreeAt (w : World) (T : Nat) (A : Option Addr) (n c : Nat) : Prop := w.heap[T]? = some (.cells #[.slice A n c] 46 (0, 0))
theorem TreeAt.below {w w' : World} {T : Nat} {A : Option Addr} {n c : Nat} (h : TreeAt w T A n c) (hb : Below w.heap.size w w') : TreeAt w' T A n c := (hb.block T (Array.getElem?_eq_some_iff.1 h).1).trans h

theorem itoaS (n : Nat) (h1 : 1 ≤ n) (h2 : n ≤ 14) (w : World) : Calls Tryd.prog 49 #[.int .i64 n] w fun e w' => e = .returned (.string (strB (digitsOf (n : Int)))) ∧ w' = w := itoa_any n h1 h2 w
theorem wordS (s : ByteArray) (w : World) (hs : s.size ≤ 1000000) : Calls Tryd.prog 50 #[.string s] w fun e w' => e = .returned (.string (strB (wordOf s.data.toList))) ∧ Below w.heap.size w w' := word_any s w hs
theorem head_text (dg wl : List UInt8) : strB dg ++ ⟨#[58]⟩ ++ strB wl = strB (dg ++ 58 :: wl) := bytes_eq (by rw [bytes_app, bytes_app]; simp [strB])
theorem next_text (a r : List UInt8) : strB a ++ (⟨#[32]⟩ ++ strB r) = strB (a ++ 32 :: r) := bytes_eq (by rw [bytes_app, bytes_app]; simp [strB])
theorem end_text (a : List UInt8) : ⟨#[40]⟩ ++ strB a ++ ⟨#[41]⟩ = strB (40 :: (a ++ [41])) := bytes_eq (by rw [bytes_app, bytes_app]; simp [strB])

set_option maxRecDepth 100000 in
set_option maxHeartbeats 8000000 in
theorem show_any (t : List Nd) (hr : rightN t = true) (hI : IntN t) : ∀ (m i : Nat), i < m → i < t.length → ∀ (T : Nat) (A : Option Addr) (c : Nat) (w : World), TreeAt w T A t.length c → HoldsN w A t →
    Calls Tryd.prog 36 #[.pointer (some ⟨T, 0, none⟩), .int .i64 i] w fun e w' => e = .returned (.string (strB (showAt t i))) ∧ Below w.heap.size w w' := by
  intro m
  induction m with
  | zero => intro i h1; omega
  | succ m ih =>
    intro i h1 hi T A c w hT hH
    have hok := (rightN_parts hr).2.2.1
    have hsm := show_small hr hI hi
    have HR := Lib.hid ih
    have g := List.getElem?_eq_getElem hi
    have hmem := List.getElem_mem hi
    have HS := Lib.hid (showAt_eq hok hi g)
    have hkd := fun k hk => nodes_kid hok hi (k := k) hk
    rw [nodeAt_some g] at hkd
    obtain ⟨hko, hfo⟩ := nodesOk_at hok g
    obtain ⟨kd, hkind, hk1, hk2⟩ := kind_range hfo
    obtain ⟨b, off, rfl, c0, c1, B, c2, c3, hK, hc⟩ := hH i _ g
    obtain ⟨z1, z2, z3, z4⟩ := hI _ hmem
    generalize t[i] = x at *
    rw [hkind] at c0
    have HHN := Lib.hid hH
    have HTT := Lib.hid hT
    have HKx := Lib.hid hK
    have HKD := Lib.hid hkd
    have t0 : w.cell? ⟨T, 0, none⟩ = some (.slice (some ⟨b, off, none⟩) t.length c) := by unfold TreeAt at hT; simp [World.cell?, hT]
    have HKIND := Lib.hid hkind
    have z9 := digits_len (kd : Int)
    have z8 := wordOf_len x.text.data.toList
    rw [bytes_len] at z8
    rw [hkind] at HS
    clear ih
    clear hH hT hK hkd hko hfo hkind g hmem z1 z4 hI hok hr
    go_enter Tryd.func36, Tryd.ntmps36
    go_wp2_with fail
    have hB1 : Below w.heap.size w (w.alloc (.cells #[.int .i64 kd, .string x.text, .slice B x.kids.length c2] 37)) := (Below.refl _ _).alloc (Nat.le_refl _) _
    have hrow : (w.alloc (.cells #[.int .i64 kd, .string x.text, .slice B x.kids.length c2] 37)).heap[w.heap.size]? = some (.cells #[.int .i64 kd, .string x.text, .slice B x.kids.length c2] 37 (0, 0)) := heap_alloc_new _ _
    generalize (w.alloc (.cells #[.int .i64 kd, .string x.text, .slice B x.kids.length c2] 37)) = W1 at *
    generalize hPP : w.heap.size = P at *
    have e0 : W1.cell? ⟨P, 0, none⟩ = some (.int .i64 kd) := by simp [World.cell?, hrow]
    have e1 : W1.cell? ⟨P, 1, none⟩ = some (.string x.text) := by simp [World.cell?, hrow]
    have hP1 : P < W1.heap.size := (Array.getElem?_eq_some_iff.1 hrow).1
    have HIT := Lib.hid (fun W => itoaS kd hk1 hk2 W)
    have HWD := Lib.hid (fun W => wordS x.text W z3)
    generalize digitsOf (kd : Int) = dg at *
    generalize wordOf x.text.data.toList = wl at *
    have z7 : (strB dg).size ≤ 2 := z9
    have z6 : (strB wl).size ≤ 3000000 := by rw [strB_size]; omega
    have n1 : ¬ (9223372036854775807 < (strB dg).size + 1) := by omega
    have n2 : ¬ (9223372036854775807 < (strB dg).size + 1 + (strB wl).size) := by omega
    refine wp_region_four (S := fun w' => w'.cell? ⟨P, 0, none⟩ = some (.int .i64 kd) ∧ w'.cell? ⟨P, 1, none⟩ = some (.string x.text)) [0, 1, 4, 5] [2] [3] [6, 7, 8] (by kernel_rfl) (by kernel_rfl) (fun _ _ _ _ _ h => h) ⟨e0, e1⟩ ?_
    simp only [pick, List.filterMap_cons, List.filterMap_nil, List.getElem?_toArray, List.getElem?_cons_zero, List.getElem?_cons_succ]
    repeat (refine wpHead_step (v := ?_) rfl ?_ ?_; rotate_left; (focus (rintro w1 ⟨e0, e1⟩; go_simp; try with_reducible rfl)); simp only [Act.put, List.setIfInBounds_toArray, List.set_cons_zero, List.set_cons_succ])
    refine wpHead_nil ?_
    refine wpTailK_step rfl (fun K hK => ?_)
    go_wp2_with fail
    refine (HIT.out _).mono ?_
    rintro e W2 ⟨rfl, rfl⟩
    go_wp2_with fail
    refine hK _ _ ⟨e0, e1⟩ ?_
    clear hK K
    try simp only [Act.put, List.setIfInBounds_toArray, List.set_cons_zero, List.set_cons_succ]
    refine wpTailK_nil ?_
    repeat (refine wpHead_step (v := ?_) rfl ?_ ?_; rotate_left; (focus (rintro w1 ⟨e0, e1⟩; go_simp; try with_reducible rfl)); simp only [Act.put, List.setIfInBounds_toArray, List.set_cons_zero, List.set_cons_succ])
    refine wpHead_nil ?_
    refine wpTail_step rfl (fun K hK => ?_)
    go_wp2_with fail
    refine (HWD.out _).mono ?_
    rintro e W2 ⟨rfl, hb2⟩
    have hrow2 := (hb2.block P hP1).trans hrow
    have HB2 : Hid (Below P w W2) := Lib.hid (hB1.drew.trans (hb2.mono (Nat.le_of_lt hP1)))
    clear e0 e1 hrow hB1 hb2 hP1
    have e0 : W2.cell? ⟨P, 0, none⟩ = some (.int .i64 kd) := by simp [World.cell?, hrow2]
    have e1 : W2.cell? ⟨P, 1, none⟩ = some (.string x.text) := by simp [World.cell?, hrow2]
    have e2 : W2.cell? ⟨P, 2, none⟩ = some (.slice B x.kids.length c2) := by simp [World.cell?, hrow2]
    go_wp2_with fail
    refine hK _ _ ⟨e0, e1⟩ ?_
    clear hK K
    try simp only [Act.put, List.setIfInBounds_toArray, List.set_cons_zero, List.set_cons_succ]
    refine wpTail_step rfl (fun K hK => ?_)
    go_wp2_with fail
    refine hK _ _ ⟨e0, e1⟩ ?_
    clear hK K
    try simp only [Act.put, List.setIfInBounds_toArray, List.set_cons_zero, List.set_cons_succ]
    refine wpTail_step rfl (fun K hK => ?_)
    go_wp2_with fail
    refine hK _ _ ⟨e0, e1⟩ ?_
    clear hK K
    try simp only [Act.put, List.setIfInBounds_toArray, List.set_cons_zero, List.set_cons_succ]
    refine wpTail_nil ?_
    go_wp2_with fail
    rw [head_text]
    have hpw : P ≤ W2.heap.size := by rw [← hPP]; exact HB2.out.size
    have hPlt : P < W2.heap.size := (Array.getElem?_eq_some_iff.1 hrow2).1
    have HN0 : Hid (x.kids.flatMap (fun k => 32 :: showAt t k.toNat) = x.kids.flatMap (fun k => 32 :: showAt t k.toNat)) := Lib.hid rfl
    clear n1 n2 z6 z7 z8 z9 HIT HWD e0 e1 e2
    have HSM : Hid (x.kids ≠ [] → (dg ++ 58 :: wl).length + (x.kids.flatMap (fun k => 32 :: showAt t k.toNat)).length + 2 ≤ 1204000000) := Lib.hid (fun hne => by
      have h := hsm
      rw [HS.out, if_neg hne] at h
      simp only [List.length_cons, List.length_append, List.length_nil] at h ⊢
      omega)
    have HS1 : Hid (x.kids = [] → showAt t i = dg ++ 58 :: wl) := Lib.hid (fun e => by rw [HS.out, if_pos e])
    have HS2 : Hid (x.kids ≠ [] → showAt t i = 40 :: ((dg ++ 58 :: wl) ++ x.kids.flatMap (fun k => 32 :: showAt t k.toNat) ++ [41])) := Lib.hid (fun e => by rw [HS.out, if_neg e])
    clear HS hsm
    generalize dg ++ 58 :: wl = pre at *
    generalize hkids : x.kids = ks at *
    clear hkids HN0
    go_loopw [6, 27] (fun s v wr => ∃ q : Nat, v = .int .i64 q ∧ q ≤ ks.length ∧ s = .string (strB (pre ++ (ks.take q).flatMap (fun k => 32 :: showAt t k.toNat))) ∧ wr.heap[P]? = some (.cells #[.int .i64 kd, .string x.text, .slice B ks.length c2] 37 (0, 0)) ∧ Hid (Below P w wr)) (fun _ v _ => ks.length - (intOf v).toNat)
    case atStart => exact ⟨0, rfl, Nat.zero_le _, by rw [List.take_zero, List.flatMap_nil, List.append_nil], hrow2, HB2⟩
    case round =>
      clear hrow2 HB2 hpw hPlt
      obtain ⟨q, rfl, hq, rfl, hrow, HB⟩ := hrel
      by_cases hlt : q < ks.length
      · have g := List.getElem?_eq_getElem hlt
        have hmem := List.getElem_mem hlt
        obtain ⟨hk0, hk9⟩ := HKD.out _ hmem
        have HFL : Hid ((ks.take (q + 1)).flatMap (fun k => 32 :: showAt t k.toNat) = (ks.take q).flatMap (fun k => 32 :: showAt t k.toNat) ++ 32 :: showAt t ks[q].toNat) := Lib.hid (by rw [List.take_succ_eq_append_getElem hlt, List.flatMap_append]; simp)
        have hle : ((ks.take (q + 1)).flatMap (fun k => 32 :: showAt t k.toNat)).length ≤ (ks.flatMap (fun k => 32 :: showAt t k.toNat)).length := by
          have e : ks.flatMap (fun k => 32 :: showAt t k.toNat) = (ks.take (q + 1)).flatMap (fun k => 32 :: showAt t k.toNat) ++ (ks.drop (q + 1)).flatMap (fun k => 32 :: showAt t k.toNat) := by rw [← List.flatMap_append, List.take_append_drop]
          rw [e, List.length_append]
          omega
        have hsm := HSM.out (fun e => by rw [e] at hlt; simp at hlt)
        obtain ⟨b2, off2, rfl, f0⟩ := HKx.out q _ g
        have f1 := (HB.out.cell (p := ⟨b2, _, none⟩) (by rw [← hPP]; exact cell_lt f0)).trans f0
        have HX := Lib.hid (HR.out ks[q].toNat (by omega) (by omega) T (some ⟨b, off, none⟩) c wr (HTT.out.below (by rw [hPP]; exact HB.out)) (HHN.out.below (by rw [hPP]; exact HB.out)))
        have hkk : ((ks[q].toNat : Nat) : Int) = ks[q] := by omega
        rw [hkk] at HX
        rw [HFL.out] at hle
        generalize ks[q] = k at *
        generalize showAt t k.toNat = r at *
        have HFL2 : Hid (pre ++ (ks.take (q + 1)).flatMap (fun k => 32 :: showAt t k.toNat) = (pre ++ (ks.take q).flatMap (fun k => 32 :: showAt t k.toNat)) ++ 32 :: r) := Lib.hid (by rw [HFL.out, List.append_assoc])
        generalize ks.flatMap (fun k => 32 :: showAt t k.toNat) = fl at *
        generalize (ks.take q).flatMap (fun k => 32 :: showAt t k.toNat) = fq at *
        simp only [List.length_append, List.length_cons] at hle
        have n3 : ¬ (9223372036854775807 < 1 + (strB r).size) := by rw [strB_size]; omega
        have n4 : ¬ (9223372036854775807 < (strB (pre ++ fq)).size + (1 + (strB r).size)) := by rw [strB_size, strB_size, List.length_append]; omega
        clear f0 g hmem hkk HFL
        go_wp2_with fail
        refine HX.out.mono ?_
        rintro e W3 ⟨rfl, hb3⟩
        have hrow3 := (hb3.block P (Array.getElem?_eq_some_iff.1 hrow).1).trans hrow
        have HB3 : Hid (Below P w W3) := Lib.hid (HB.out.trans (hb3.mono (by rw [← hPP]; exact HB.out.size)))
        go_wp2_with fail
        rw [next_text, ← HFL2.out]
        go_roundw
        case rel => exact ⟨q + 1, by go_num, by omega, rfl, hrow3, HB3⟩
        case measure => simp [intOf]; omega
      · obtain rfl : q = ks.length := by omega
        rw [List.take_of_length_le (Nat.le_refl _)]
        have e2 : wr.cell? ⟨P, 2, none⟩ = some (.slice B ks.length c2) := by simp [World.cell?, hrow]
        by_cases hne : ks = []
        · have HS3 := Lib.hid (HS1.out hne)
          subst hne
          simp only [List.flatMap_nil, List.append_nil]
          go_wp2_with fail
          go_ret
          rw [HS3.out]
          exact ⟨rfl, HB.out⟩
        · have HS3 := Lib.hid (HS2.out hne)
          have hsm := HSM.out hne
          have hpos : 0 < ks.length := List.length_pos_iff.2 hne
          have n5 : ¬ (9223372036854775807 < 1 + (strB (pre ++ ks.flatMap (fun k => 32 :: showAt t k.toNat))).size) := by rw [strB_size, List.length_append]; omega
          have n6 : ¬ (9223372036854775807 < 1 + (strB (pre ++ ks.flatMap (fun k => 32 :: showAt t k.toNat))).size + 1) := by rw [strB_size, List.length_append]; omega
          generalize pre ++ ks.flatMap (fun k => 32 :: showAt t k.toNat) = full at *
          clear hne
          go_wp2_with fail
          go_ret
          rw [HS3.out, ← end_text]
          exact ⟨rfl, by rw [hPP]; exact HB.out⟩
end Go.Proofs.YtbcgdkhkljeomaaDoor
