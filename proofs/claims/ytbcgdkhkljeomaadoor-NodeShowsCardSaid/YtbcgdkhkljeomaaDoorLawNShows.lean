/-
  The law NodeShows: true.
-/
import Derived.Test.YtbcgdkhkljeomaaDoorProg
import Derived.Test.YtbcgdkhkljeomaaDoorReg
import Derived.WalkKit
import Derived.WalkSpells
import Derived.WalkLawsBesides
import Derived.Lib.Hide
import Derived.Lib.MinMax
import Derived.Deep.QuietTactic
import Derived.BigQuiet
import Derived.OwnWalk
import Derived.Deep.AppendLies
import Derived.KernelRfl
import Derived.Test.YtbcgdkhkljeomaaDoorNdLo
import Derived.Test.YtbcgdkhkljeomaaDoorLawNLeaves
set_option linter.unusedSimpArgs false
set_option linter.unusedVariables false
namespace Go.Proofs.YtbcgdkhkljeomaaDoor
open Go.RowKit

/-! ### A show tells what it is of -/
theorem split_colon : ∀ {a b r1 r2 : List UInt8}, 58 ∉ a → 58 ∉ b → a ++ 58 :: r1 = b ++ 58 :: r2 → a = b ∧ r1 = r2
  | [], [], r1, r2, _, _, h => ⟨rfl, by simpa using h⟩
  | [], y :: b, r1, r2, _, hb, h => by
    simp at h
    exact absurd (by rw [h.1]; exact List.mem_cons_self) hb
  | x :: a, [], r1, r2, ha, _, h => by
    simp at h
    exact absurd (by rw [h.1]; exact List.mem_cons_self) ha
  | x :: a, y :: b, r1, r2, ha, hb, h => by
    simp only [List.cons_append, List.cons.injEq] at h
    obtain ⟨e1, e2⟩ := split_colon (fun hm => ha (List.mem_cons_of_mem _ hm)) (fun hm => hb (List.mem_cons_of_mem _ hm)) h.2
    exact ⟨by rw [h.1, e1], e2⟩
theorem digits_fin : ∀ n m : Fin 15, 1 ≤ n.val → 1 ≤ m.val → digitsOf (n.val : Int) = digitsOf (m.val : Int) → n = m := by decide +kernel
theorem digits_no58 : ∀ n : Fin 15, 58 ∉ digitsOf (n.val : Int) := by decide +kernel
theorem hex_inj : ∀ n m : Fin 16, hexOf n.val = hexOf m.val → n = m := by decide +kernel
theorem wordOne_head {c : UInt8} : ∃ r, wordOne c = (if escaped c then 37 else c) :: r := by
  unfold wordOne
  split
  · exact ⟨_, rfl⟩
  · exact ⟨_, rfl⟩
theorem not_esc37 {c : UInt8} (h : escaped c = false) : c ≠ 37 := by
  rintro rfl
  exact absurd h (by decide)
theorem wordOne_inj {c d : UInt8} {r1 r2 : List UInt8} (h : wordOne c ++ r1 = wordOne d ++ r2) : c = d ∧ r1 = r2 := by
  unfold wordOne at h
  cases hc : escaped c with
  | true =>
    cases hd : escaped d with
    | true =>
      rw [hc, hd] at h
      simp only [if_true, List.cons_append, List.nil_append, List.cons.injEq, true_and] at h
      obtain ⟨h1, h2, h3⟩ := h
      have lc := UInt8.toNat_lt c
      have ld := UInt8.toNat_lt d
      have e1 := hex_inj ⟨c.toNat / 16, by omega⟩ ⟨d.toNat / 16, by omega⟩ h1
      have e2 := hex_inj ⟨c.toNat % 16, by omega⟩ ⟨d.toNat % 16, by omega⟩ h2
      simp only [Fin.mk.injEq] at e1 e2
      exact ⟨UInt8.toNat.inj (by omega), h3⟩
    | false =>
      rw [hc, hd] at h
      simp only [if_true, Bool.false_eq_true, if_false, List.cons_append, List.nil_append, List.cons.injEq] at h
      exact absurd h.1.symm (not_esc37 hd)
  | false =>
    cases hd : escaped d with
    | true =>
      rw [hc, hd] at h
      simp only [if_true, Bool.false_eq_true, if_false, List.cons_append, List.nil_append, List.cons.injEq] at h
      exact absurd h.1 (not_esc37 hc)
    | false =>
      rw [hc, hd] at h
      simp only [Bool.false_eq_true, if_false, List.cons_append, List.nil_append, List.cons.injEq] at h
      exact h
theorem word_inj : ∀ {a b : List UInt8}, wordOf a = wordOf b → a = b
  | [], [], _ => rfl
  | [], d :: b, h => by
    rw [wordOf_eq, wordOf_eq, List.flatMap_nil, List.flatMap_cons] at h
    obtain ⟨r, e⟩ := wordOne_head (c := d)
    rw [e] at h
    simp at h
  | c :: a, [], h => by
    rw [wordOf_eq, wordOf_eq, List.flatMap_nil, List.flatMap_cons] at h
    obtain ⟨r, e⟩ := wordOne_head (c := c)
    rw [e] at h
    simp at h
  | c :: a, d :: b, h => by
    rw [wordOf_eq, wordOf_eq, List.flatMap_cons, List.flatMap_cons] at h
    obtain ⟨e1, e2⟩ := wordOne_inj h
    rw [← wordOf_eq, ← wordOf_eq] at e2
    rw [e1, word_inj e2]
/-- The shows of places ahead of the last one are the same. -/
theorem show_prefix {t1 t2 : List Nd} (h1 : nodesOk 0 t1 = true) (h2 : nodesOk 0 t2 = true) {m : Nat} (he : ∀ j, j < m → t1[j]? = t2[j]?) (l1 : m ≤ t1.length) (l2 : m ≤ t2.length) : ∀ (n i : Nat), i < n → i < m → showAt t1 i = showAt t2 i
  | 0, i, h, _ => by omega
  | n + 1, i, h, hm => by
    have g1 := List.getElem?_eq_getElem (l := t1) (i := i) (by omega)
    have g2 := (he i hm).symm.trans g1
    rw [showAt_eq h1 (by omega) g1, showAt_eq h2 (by omega) g2]
    have hc : (t1[i]'(by omega)).kids.flatMap (fun k => 32 :: showAt t1 k.toNat) = (t1[i]'(by omega)).kids.flatMap (fun k => 32 :: showAt t2 k.toNat) := flat_congr (fun k hk => by
      have := nodes_kid h1 (i := i) (by omega) (k := k) (by rw [nodeAt_some g1]; exact hk)
      rw [show_prefix h1 h2 he l1 l2 n k.toNat (by omega) (by omega)])
    rw [hc]
theorem head_inj {a b : Int} {s u : List UInt8} {P : List UInt8} (ha : ∃ n : Nat, a = (n : Int) ∧ 1 ≤ n ∧ n ≤ 14) (hb : ∃ n : Nat, b = (n : Int) ∧ 1 ≤ n ∧ n ≤ 14) (h : digitsOf a ++ 58 :: wordOf s = digitsOf b ++ 58 :: wordOf u) : a = b ∧ s = u := by
  obtain ⟨n, rfl, n1, n2⟩ := ha
  obtain ⟨m, rfl, m1, m2⟩ := hb
  obtain ⟨e1, e2⟩ := split_colon (digits_no58 ⟨n, by omega⟩) (digits_no58 ⟨m, by omega⟩) h
  have := digits_fin ⟨n, by omega⟩ ⟨m, by omega⟩ n1 m1 e1
  simp only [Fin.mk.injEq] at this
  exact ⟨by rw [this], word_inj e2⟩
theorem shows_law {a b : Int} {s u : ByteArray} {l : List (List Nd)} {x y : List Nd} (hx : joinN a s l = some x) (hy : joinN b u l = some y) : (x = y ↔ (a = b ∧ s = u)) ∧ (showN x = showN y ↔ x = y) := by
  obtain ⟨ex, _, rx⟩ := joinN_eq hx
  obtain ⟨ey, _, ry⟩ := joinN_eq hy
  have hxy : x = y ↔ (a = b ∧ s = u) := by
    rw [ex, ey]
    constructor
    · intro h
      have h2 := List.append_cancel_left h
      simp only [List.cons.injEq, Nd.mk.injEq, and_true] at h2
      exact h2
    · rintro ⟨rfl, rfl⟩
      rfl
  refine ⟨hxy, fun h => ?_, fun h => by rw [h]⟩
  obtain ⟨x1, x2, xok, _⟩ := rightN_parts rx
  obtain ⟨y1, y2, yok, _⟩ := rightN_parts ry
  have lx : x.length = sizeOfT l + 1 := by rw [ex, List.length_append, body_length]; rfl
  have ly : y.length = sizeOfT l + 1 := by rw [ey, List.length_append, body_length]; rfl
  have gx : x[x.length - 1]? = some ⟨a, s, endsOf 0 l⟩ := by
    rw [lx, Nat.add_sub_cancel, ex, List.getElem?_append_right (by rw [body_length]; omega), body_length, Nat.sub_self]
    rfl
  have gy : y[y.length - 1]? = some ⟨b, u, endsOf 0 l⟩ := by
    rw [ly, Nat.add_sub_cancel, ey, List.getElem?_append_right (by rw [body_length]; omega), body_length, Nat.sub_self]
    rfl
  have hpre : ∀ j, j < sizeOfT l → x[j]? = y[j]? := fun j hj => by
    rw [ex, ey, List.getElem?_append_left (by rw [body_length]; omega), List.getElem?_append_left (by rw [body_length]; omega)]
  rw [showN_yes rx, showN_yes ry] at h
  have h2 : showAt x (x.length - 1) = showAt y (y.length - 1) := by
    have := congrArg (fun b : ByteArray => b.data.toList) h
    simpa [strB] using this
  rw [showAt_eq xok (by omega) gx, showAt_eq yok (by omega) gy] at h2
  have ka := kind_range (nodesOk_at xok gx).2
  have kb := kind_range (nodesOk_at yok gy).2
  simp only at h2 ka kb
  have hc : (endsOf 0 l).flatMap (fun k => 32 :: showAt x k.toNat) = (endsOf 0 l).flatMap (fun k => 32 :: showAt y k.toNat) := flat_congr (fun k hk => by
    have := nodes_kid xok (i := x.length - 1) (by omega) (k := k) (by rw [nodeAt_some gx]; exact hk)
    rw [show_prefix xok yok hpre (by omega) (by omega) (k.toNat + 1) k.toNat (by omega) (by omega)])
  rw [hc] at h2
  refine hxy.2 ?_
  have hh : digitsOf a ++ 58 :: wordOf s.data.toList = digitsOf b ++ 58 :: wordOf u.data.toList := by
    split at h2
    · exact h2
    · have h3 := (List.cons.inj h2).2
      have h4 := List.append_cancel_right h3
      exact List.append_cancel_right h4
  obtain ⟨e1, e2⟩ := head_inj (P := []) ka kb hh
  exact ⟨e1, bytes_eq e2⟩
set_option maxRecDepth 100000 in
set_option maxHeartbeats 8000000 in
theorem nodeShows_any (a b : Int) (s u : ByteArray) (l0 : List (List Nd)) (C : Option Addr) (d : Nat) (ad : Addr) (w : World) (hk : (Lit.int .i64 a).wf = true) (hk2 : (Lit.int .i64 b).wf = true) (hs : s.size ≤ maxLen) (hu : u.size ≤ maxLen)
    (hl : l0.length ≤ maxLen) (hsl : ∀ t ∈ l0, t.length ≤ maxLen ∧ ∀ k ∈ t, MayNd k) (hC : HoldsTs w C l0) (he : errNodeAt ad w) :
    Calls Tryd.prog 8 #[.int .i64 a, .int .i64 b, .string s, .string u, .slice C l0.length d] w fun e w' => e = .returned (.bool true) ∧ Below w.heap.size w w' := by
  have HS := Lib.hid (shown_any ad w he)
  have HCu := Lib.hid (fun v => cut_any s v hs)
  have HCv := Lib.hid (fun v => cut_any u v hu)
  have hcs := cut_size s
  have hcu := cut_size u
  have HSm := Lib.hid (some_small hsl)
  have HSo := Lib.hid (fun v B q hB => someC l0 B q v hl hsl hB)
  have HJx := Lib.hid (fun v B q (hv : errNodeAt ad v) hB => joinC a (cut50 s) (someN l0) B q ad v hk hcs HSm.out hB hv)
  have HJy := Lib.hid (fun v B q (hv : errNodeAt ad v) hB => joinC b (cut50 u) (someN l0) B q ad v hk2 hcu HSm.out hB hv)
  generalize cut50 s = cs at *
  generalize cut50 u = cu at *
  generalize someN l0 = l at *
  unfold Gives at HJx HJy
  clear hsl
  go_enter Tryd.func8, Tryd.ntmps8
  go_wp2_with fail
  refine HS.out.mono ?_
  rintro e w1 ⟨rfl, hb1⟩
  have hC1 := hC.below hb1
  have he1 := err_below he hb1
  clear HS hC he
  go_wp2_with fail
  refine (HSo.out w1 C d hC1).mono ?_
  rintro e w2 ⟨C2, d2, rfl, hC2, z2, hb2⟩
  have he2 := err_below he1 hb2
  have B2 := Lib.hid (hb1.trans (hb2.mono hb1.size))
  clear HSo hC1 he1 hb1 hb2
  go_wp2_with fail
  refine (HCu.out w2).mono ?_
  rintro e w2' ⟨rfl, rfl⟩
  go_wp2_with fail
  refine (HJx.out _ C2 d2 he2 hC2).mono ?_
  rintro e w3 ⟨D3, e3, rfl, hD3, z3, hb3⟩
  have hC3 := hC2.below hb3
  have he3 := err_below he2 hb3
  have B3 := Lib.hid (B2.out.trans (hb3.mono B2.out.size))
  clear HJx hC2 he2 B2 hb3
  go_wp2_with fail
  refine (HCv.out w3).mono ?_
  rintro e w3' ⟨rfl, rfl⟩
  go_wp2_with fail
  refine (HJy.out _ C2 d2 he3 hC3).mono ?_
  rintro e w4 ⟨D4, e4, rfl, hD4, z4, hb4⟩
  have hD34 := hD3.below hb4
  have B4 := Lib.hid (B3.out.trans (hb4.mono B3.out.size))
  clear HJy hC3 he3 B3 hb4 hD3
  cases hjx : joinN a cs l with
  | none =>
    cases hjy : joinN b cu l
    all_goals
      simp only [outOf, codeO, Option.getD_none, Option.getD_some, Option.isSome_some, Option.isSome_none, List.length_nil, Bool.false_eq_true, if_false, if_true]
      clear hjx hjy
      go_wp2_with fail
      go_ret
      exact ⟨rfl, B4.out⟩
  | some x =>
    cases hjy : joinN b cu l with
    | none =>
      simp only [outOf, codeO, Option.getD_none, Option.getD_some, Option.isSome_some, Option.isSome_none, List.length_nil, Bool.false_eq_true, if_false, if_true]
      clear hjx hjy
      go_wp2_with fail
      go_ret
      exact ⟨rfl, B4.out⟩
    | some y =>
      rw [hjx] at hD34 z3
      rw [hjy] at hD4 z4
      simp only [outOf, Option.getD_some] at hD34 z3 hD4 z4
      simp only [outOf, codeO, Option.getD_some, Option.isSome_some, if_true]
      obtain ⟨lw1, lw2⟩ := shows_law hjx hjy
      have ix := join_int hjx (by omega) (fun t ht => (HSm.out.2 t ht).2)
      have iy := join_int hjy (by omega) (fun t ht => (HSm.out.2 t ht).2)
      have rx := (joinN_eq hjx).2.2
      have lx := right_len rx
      have ly := right_len (joinN_eq hjy).2.2
      have sp := empty_not (show_pos rx)
      have HSx := Lib.hid (fun v hb => showAll_any x D3 e3 v (hD34.below (hb : Below w4.heap.size w4 v)) ix)
      have HSy := Lib.hid (fun v hb => showAll_any y D4 e4 v (hD4.below (hb : Below w4.heap.size w4 v)) iy)
      have HSa := Lib.hid (fun v hb => same_any x y D3 D4 e3 e4 v (by omega) (by omega) (hD34.below (hb : Below w4.heap.size w4 v)) (hD4.below hb) ix iy)
      clear hjx hjy ix iy hD34 hD4 HSm
      have three : (decide (x = y) = true ∧ ((showN x).toList == (showN y).toList) = true ∧ decide (a = b) = true ∧ (a == b) = true ∧ (cs.toList == cu.toList) = true) ∨
          (decide (x = y) = false ∧ ((showN x).toList == (showN y).toList) = false ∧ decide (a = b) = true ∧ (a == b) = true ∧ (cs.toList == cu.toList) = false) ∨
          (decide (x = y) = false ∧ ((showN x).toList == (showN y).toList) = false ∧ decide (a = b) = false ∧ (a == b) = false) := by
        by_cases hab : a = b
        · by_cases hcc : cs = cu
          · have hxy := lw1.2 ⟨hab, hcc⟩
            exact .inl ⟨decide_eq_true hxy, bytes_beq_yes (by rw [hxy]), decide_eq_true hab, beq_iff_eq.2 hab, bytes_beq_yes hcc⟩
          · have hxy : x ≠ y := fun h => hcc (lw1.1 h).2
            exact .inr (.inl ⟨decide_eq_false hxy, bytes_beq_no (fun h => hxy (lw2.1 h)), decide_eq_true hab, beq_iff_eq.2 hab, bytes_beq_no hcc⟩)
        · have hxy : x ≠ y := fun h => hab (lw1.1 h).1
          exact .inr (.inr ⟨decide_eq_false hxy, bytes_beq_no (fun h => hxy (lw2.1 h)), decide_eq_false hab, beq_eq_false_iff_ne.2 hab⟩)
      generalize showN x = sx at *
      generalize showN y = sy at *
      generalize decide (x = y) = sa at *
      clear lw1 lw2 rx
      go_wp2_with fail
      refine (HSx.out w4 (Below.refl _ _)).mono ?_
      rintro e w5 ⟨rfl, hb5⟩
      have B5 := Lib.hid hb5
      clear hb5
      go_wp2_with fail
      refine (HSy.out w5 B5.out).mono ?_
      rintro e w6 ⟨rfl, hb6⟩
      have B6 := Lib.hid (B5.out.trans (hb6.mono B5.out.size))
      clear hb6
      go_wp2_with fail
      refine (HSa.out w6 B6.out).mono ?_
      rintro e w7 ⟨rfl, hb7⟩
      have B7 := Lib.hid (B6.out.trans (hb7.mono B6.out.size))
      clear hb7
      rcases three with ⟨rfl, t2, t3, t4, t5⟩ | ⟨rfl, t2, t3, t4, t5⟩ | ⟨rfl, t2, t3, t4⟩
      all_goals
        go_wp2_with fail
        refine (HSa.out w7 B7.out).mono ?_
        rintro e w8 ⟨rfl, hb8⟩
        have B8 := Lib.hid (B7.out.trans (hb8.mono B7.out.size))
        clear hb8
        go_wp2_with fail
        first
        | (refine (HCu.out w8).mono ?_
           rintro e w8' ⟨rfl, rfl⟩
           go_wp2_with fail
           refine (HCv.out _).mono ?_
           rintro e w8' ⟨rfl, rfl⟩
           go_wp2_with fail
           refine (HSx.out _ B8.out).mono ?_
           rintro e w9 ⟨rfl, hb9⟩
           have B9 := Lib.hid (B8.out.trans (hb9.mono B8.out.size))
           go_wp2_with fail
           go_ret
           exact ⟨rfl, B4.out.trans (B9.out.mono B4.out.size)⟩)
        | (refine (HSx.out _ B8.out).mono ?_
           rintro e w9 ⟨rfl, hb9⟩
           have B9 := Lib.hid (B8.out.trans (hb9.mono B8.out.size))
           go_wp2_with fail
           go_ret
           exact ⟨rfl, B4.out.trans (B9.out.mono B4.out.size)⟩)
end Go.Proofs.YtbcgdkhkljeomaaDoor
