/-
  A text, a number, a word: values that hold no others: by the program.
-/
import Derived.Test.YtamclieppbnpiabGreatDoorProg
import Derived.Test.YtamclieppbnpiabGreatDoorReg
import Derived.WalkKit
import Derived.WalkSpells
import Derived.WalkLawsBesides
import Derived.Lib.Hide
import Derived.Lib.MinMax
import Derived.Deep.QuietTactic
import Derived.BigQuiet
import Derived.OwnWalk
import Derived.Deep.AppendLies
import Derived.KernelRfl
import Derived.Test.YtamclieppbnpiabGreatDoorJw15
import Derived.Test.YtamclieppbnpiabGreatDoorJw12
set_option linter.unusedSimpArgs false
set_option linter.unusedVariables false
namespace Go.Proofs.YtamclieppbnpiabGreatDoor
open Go Go.RowKit Go.Maps
open Fz (HoldsS)

/-- What is wrong, behind one more fault. -/
def failV (a : Addr) (ev : Value) (why : Int) : Value := match ev with | .nilIface => errV a why | e => e
/-- Nothing is wrong, or something. -/
def ErrAt (a : Addr) (ev : Value) : Prop := ev = .nilIface ∨ ∃ c, ev = errV a c
theorem ErrAt.nil (a : Addr) : ErrAt a .nilIface := .inl rfl
theorem ErrAt.err (a : Addr) (c : Int) : ErrAt a (errV a c) := .inr ⟨c, rfl⟩
theorem failV_nil (a : Addr) (why : Int) : failV a .nilIface why = errV a why := rfl
theorem failV_err (a : Addr) (c why : Int) : failV a (errV a c) why = errV a c := rfl
theorem ErrAt.fail {a : Addr} {ev : Value} (h : ErrAt a ev) (why : Int) : ErrAt a (failV a ev why) := by
  rcases h with rfl | ⟨c, rfl⟩
  · exact .err a why
  · exact .err a c
theorem fail_any (a : Addr) (R : Nat) (why : Int) (l : List UInt8) (n : Int) (ev : Value) (w : World) (h : RdAt w R l n ev) (he : ErrAt a ev) (hW : WJ a w) :
    Calls Tryz.prog 20 #[.pointer (some ⟨R, 0, none⟩), .int .i64 why] w fun e w' => e = .returned (.tuple #[]) ∧ Steps w w' R l n (failV a ev why) := by
  rcases he with rfl | ⟨c, rfl⟩
  · exact fail_new a R why l n w h hW
  · exact fail_old a R why c l n w h
/-- What a value's reading leaves. -/
def GotPost (a : Addr) (R : Nat) (nest : Int) (E : Got) (e : Ending) (w w' : World) : Prop :=
  match E with
  | .ok (v, q) => Fresh v w.heap.size e w' ∧ Steps w w' R q nest .nilIface
  | .error c => ∃ v q, Fresh v w.heap.size e w' ∧ Steps w w' R q nest (errV a c)
theorem GotPost.ofEv {a : Addr} {R : Nat} {nest : Int} {E : Got} {e : Ending} {w w' : World} {v : Js} {q : List UInt8} {ev : Value} (h : (ev = .nilIface ∧ E = .ok (v, q)) ∨ ∃ c, ev = errV a c ∧ E = .error c) (h1 : Fresh v w.heap.size e w') (h2 : Steps w w' R q nest ev) : GotPost a R nest E e w w' := by
  rcases h with ⟨rfl, rfl⟩ | ⟨c, rfl, rfl⟩
  · exact ⟨h1, h2⟩
  · exact ⟨v, q, h1, h2⟩
/-- A value without items. -/
theorem JD_flat (w : World) (base : Nat) (kind n : Int) (yes : Bool) (s : ByteArray) : JD (fun b => base ≤ b ∧ b < w.heap.size) w (.mk kind yes n s [] []) [.int .i64 kind, .bool yes, .int .i64 n, .string s, .slice none 0 0, .slice none 0 0] :=
  JD_mk (keys := []) (l := []) (World.ownsRow_nil _ _ _ _) (OwnsJ.nil w base)
theorem six_at {W : World} {X : Nat} {a0 a1 a2 a3 a4 a5 : Value} (h : W.heap[X]? = some (.cells #[a0, a1, a2, a3, a4, a5] tJ (0, 0))) :
    W.cell? ⟨X, 0, none⟩ = some a0 ∧ W.cell? ⟨X, 1, none⟩ = some a1 ∧ W.cell? ⟨X, 2, none⟩ = some a2 ∧ W.cell? ⟨X, 3, none⟩ = some a3 ∧ W.cell? ⟨X, 4, none⟩ = some a4 ∧ W.cell? ⟨X, 5, none⟩ = some a5 := by
  simp [World.cell?, h]

theorem WordPost.ev {a : Addr} {R N : Nat} {nest : Int} {E : Except Int (List UInt8 × List UInt8)} {e : Ending} {w w' : World} (h : WordPost a R nest N E e w w') :
    ∃ t q ev, ErrAt a ev ∧ e = .returned (.string (bs t)) ∧ Steps w w' R q nest ev ∧ ((ev = .nilIface ∧ E = .ok (t, q)) ∨ ∃ c, ev = errV a c ∧ E = .error c) := by
  cases E with
  | ok p => exact ⟨p.1, p.2, .nilIface, .nil a, h.1, h.2, .inl ⟨rfl, rfl⟩⟩
  | error c =>
    obtain ⟨t, q, h1, h2, h3⟩ := h
    exact ⟨t, q, errV a c, .err a c, h1, h3, .inr ⟨c, rfl, rfl⟩⟩
theorem set6_steps {w W : World} {R X : Nat} {q : List UInt8} {nest : Int} {ev : Value} (h : Steps w W R q nest ev) (hX : w.heap.size ≤ X) (hR : R < w.heap.size) (b0 b1 b2 b3 b4 b5 : Value) :
    Steps w ((((((W.setCell ⟨X, 0, none⟩ b0).setCell ⟨X, 1, none⟩ b1).setCell ⟨X, 2, none⟩ b2).setCell ⟨X, 3, none⟩ b3).setCell ⟨X, 4, none⟩ b4).setCell ⟨X, 5, none⟩ b5) R q nest ev :=
  ⟨h.1.keep (below6 (m := w.heap.size) (Below.refl _ W) hX b0 b1 b2 b3 b4 b5) hR, h.2.trans (but_below' (below6 (m := w.heap.size) (Below.refl _ W) hX b0 b1 b2 b3 b4 b5))⟩

set_option maxRecDepth 100000 in
set_option maxHeartbeats 4000000 in
theorem jtext_any (a : Addr) (R : Nat) (c : UInt8) (r : List UInt8) (nest : Int) (w : World) (E : Got) (hE : (match wordL r with | .error e => .error e | .ok (k, q) => .ok (textJ k, q)) = E) (h : RdAt w R (c :: r) nest .nilIface) (hl : r.length ≤ 100000000) (hW : WJ a w) (hR : 9 ≤ R) :
    Calls Tryz.prog 37 #[.pointer (some ⟨R, 0, none⟩)] w fun e w' => GotPost a R nest E e w w' := by
  have lR := h.lt
  have c0 := h.c0
  have z0 := h.z 0
  have h1 : Steps w (w.setCell ⟨R, 0, none⟩ (.string (bs r))) R r nest .nilIface := ⟨h.put0 r, Lz.KeptBut.setT _ _ _ _ _⟩
  have hsz : (bs (c :: r)).size = r.length + 1 := by rw [bs_size]; rfl
  have k1 : (1 : Int) ≤ ((r.length + 1 : Nat) : Int) := by omega
  have hex : (bs (c :: r)).extract 1 (r.length + 1) = bs r := bs_drop (c :: r) 1
  have HW := Lib.hid (hW.but h1.2 hW.low hR)
  have HS := Lib.hid h1
  have HE := Lib.hid hE
  clear h hW hE h1
  go_enter Tryz.func37, Tryz.ntmps37
  go_wp2_with fail
  have hz : (w.setCell ⟨R, 0, none⟩ (.string (bs r))).heap.size = w.heap.size := by simp [World.setCell]
  have hbV := below_new (w.setCell ⟨R, 0, none⟩ (.string (bs r))) (.cells #[.int .i64 0, .bool false, .int .i64 0, .string ⟨#[]⟩, .slice none 0 0, .slice none 0 0] tJ)
  have hXV := heap_alloc_new (w.setCell ⟨R, 0, none⟩ (.string (bs r))) (.cells #[.int .i64 0, .bool false, .int .i64 0, .string ⟨#[]⟩, .slice none 0 0, .slice none 0 0] tJ)
  have hzV : ((w.setCell ⟨R, 0, none⟩ (.string (bs r))).alloc (.cells #[.int .i64 0, .bool false, .int .i64 0, .string ⟨#[]⟩, .slice none 0 0, .slice none 0 0] tJ)).heap.size = w.heap.size + 1 := by simp [hz]
  have hRV := HS.out.1.below hbV
  have hSV : Steps w ((w.setCell ⟨R, 0, none⟩ (.string (bs r))).alloc (.cells #[.int .i64 0, .bool false, .int .i64 0, .string ⟨#[]⟩, .slice none 0 0, .slice none 0 0] tJ)) R r nest .nilIface := ⟨hRV, HS.out.2.trans (but_below' (by rw [hz] at hbV; exact hbV))⟩
  have hWV := HW.out.keep hbV
  rw [hz] at hXV
  generalize (w.setCell ⟨R, 0, none⟩ (.string (bs r))).alloc (.cells #[.int .i64 0, .bool false, .int .i64 0, .string ⟨#[]⟩, .slice none 0 0, .slice none 0 0] tJ) = V at *
  refine (word_any a R r nest V _ rfl hRV hl hWV hR).mono ?_
  intro e w2 hp
  obtain ⟨t, q, ev, he, rfl, hs, hE⟩ := hp.ev
  have hS2 := hSV.trans hs
  have hX2 := (hs.2.block w.heap.size (by omega) (by omega)).trans hXV
  have z2 := fun j => frozen_of_row w2 _ j _ _ hX2
  obtain ⟨x0, x1, x2, x3, x4, x5⟩ := six_at hX2
  have lX2 : w.heap.size < w2.heap.size := (Array.getElem?_eq_some_iff.1 hX2).1
  have HX2 := Lib.hid hX2
  have HS2 := Lib.hid hS2
  have HE2 := Lib.hid hE
  clear hp hs hS2 hX2 hE hbV hXV hRV hSV hWV hz
  go_wp2_with fail
  have hR9 := set6 (b0 := .int .i64 3) (b1 := .bool false) (b2 := .int .i64 0) (b3 := .string (bs t)) (b4 := .slice none 0 0) (b5 := .slice none 0 0) HX2.out
  have hS9 := set6_steps HS2.out (Nat.le_refl _) lR (.int .i64 3) (.bool false) (.int .i64 0) (.string (bs t)) (.slice none 0 0) (.slice none 0 0)
  generalize ((((((w2.setCell ⟨w.heap.size, 0, none⟩ (.int .i64 3)).setCell ⟨w.heap.size, 1, none⟩ (.bool false)).setCell ⟨w.heap.size, 2, none⟩ (.int .i64 0)).setCell ⟨w.heap.size, 3, none⟩ (.string (bs t))).setCell ⟨w.heap.size, 4, none⟩ (.slice none 0 0)).setCell ⟨w.heap.size, 5, none⟩ (.slice none 0 0)) = W9 at *
  obtain ⟨y0, y1, y2, y3, y4, y5⟩ := six_at hR9
  exact bodyPost_ret (v := .agg #[.int .i64 3, .bool false, .int .i64 0, .string (bs t), .slice none 0 0, .slice none 0 0]) (by simp [results, Tryz.results37, go_sem, y0, y1, y2, y3, y4, y5]) rfl
    (GotPost.ofEv (v := textJ t) (q := q) (ev := ev) (by
      rcases HE2.out with ⟨h1, h2⟩ | ⟨c', h1, h2⟩
      · exact .inl ⟨h1, by rw [← HE.out, h2]⟩
      · exact .inr ⟨c', h1, by rw [← HE.out, h2]⟩) ⟨_, rfl, JD_flat _ _ 3 0 false (bs t)⟩ hS9)

/-! ### A number -/
theorem sign_take (l : List UInt8) : (takeP [45] l).getD l = l.drop (signL l).length := by
  cases l with
  | nil => rfl
  | cons c r =>
    rw [signL_cons]
    by_cases h : c = 45
    · subst h; simp [takeP]
    · rw [if_neg h, takeP_no (Ne.symm h)]; rfl
theorem while_len {p : UInt8 → Bool} : ∀ l : List UInt8, (l.takeWhile p).length + (l.dropWhile p).length = l.length := fun l => by
  have := congrArg List.length (List.takeWhile_append_dropWhile (p := p) (l := l))
  rw [List.length_append] at this
  exact this
theorem take_while {p : UInt8 → Bool} : ∀ l : List UInt8, l.take (l.takeWhile p).length = l.takeWhile p
  | [] => rfl
  | c :: l => by
    by_cases h : p c = true
    · simp [List.takeWhile, h, take_while l]
    · simp [List.takeWhile, h]
theorem sign_split (l : List UInt8) : l = signL l ++ l.drop (signL l).length := by
  cases l with
  | nil => rfl
  | cons c r =>
    rw [signL_cons]
    split
    · rename_i h; subst h; rfl
    · rfl
theorem all_take (l : List UInt8) : l.take (allL l).length = allL l ∧ (allL l).length = l.length - (l.drop (signL l).length).length + (digitsL l).length ∧ (allL l).length ≤ l.length ∧ (l.drop (signL l).length).length ≤ l.length := by
  have hs := sign_split l
  have hd := while_len (p := isDg) (l.drop (signL l).length)
  have hl := congrArg List.length hs
  rw [List.length_append] at hl
  have ha : (allL l).length = (signL l).length + (digitsL l).length := by unfold allL; rw [List.length_append]
  have hd2 : (digitsL l).length ≤ (l.drop (signL l).length).length := by unfold digitsL; omega
  refine ⟨?_, by omega, by omega, by omega⟩
  have : l.take (allL l).length = (signL l ++ l.drop (signL l).length).take (allL l).length := by rw [← hs]
  rw [this, ha, List.take_length_add_append]
  unfold allL digitsL
  rw [take_while]

theorem wrap_nat {x : Int} (n : Nat) (h : n ≤ 100000000) (e : x = (n : Int)) : wrap64 x = (n : Int) := by
  rw [e]
  unfold wrap64
  omega
set_option maxRecDepth 100000 in
set_option maxHeartbeats 4000000 in
theorem digit_any (a : Addr) (R : Nat) (l : List UInt8) (nest : Int) (w : World) (E : Got) (hE : (match digitL l with | .error e => .error e | .ok (n, r) => .ok (numJ n, r)) = E) (h : RdAt w R l nest .nilIface) (hl : l.length ≤ 100000000) (hW : WJ a w) (hR : 9 ≤ R) :
    Calls Tryz.prog 40 #[.pointer (some ⟨R, 0, none⟩)] w fun e w' => GotPost a R nest E e w w' := by
  have lR := h.lt
  have c0 := h.c0
  have hbV := below_new w (.cells #[.int .i64 0, .bool false, .int .i64 0, .string ⟨#[]⟩, .slice none 0 0, .slice none 0 0] tJ)
  have hXV := heap_alloc_new w (.cells #[.int .i64 0, .bool false, .int .i64 0, .string ⟨#[]⟩, .slice none 0 0, .slice none 0 0] tJ)
  have hzV : (w.alloc (.cells #[.int .i64 0, .bool false, .int .i64 0, .string ⟨#[]⟩, .slice none 0 0, .slice none 0 0] tJ)).heap.size = w.heap.size + 1 := by simp
  have hRV := h.below hbV
  have hWV := hW.keep hbV
  have c1 := hRV.c0
  have lRV := hRV.lt
  obtain ⟨t1, t2, t3, t4⟩ := all_take l
  have HT := Lib.hid (TrimP_lib l [45])
  rw [sign_take] at HT
  unfold digitL at hE
  have hwl := while_len (p := isDg) (l.drop (signL l).length)
  have htw := take_while (p := isDg) (l.drop (signL l).length)
  have hdd : (l.drop (signL l).length).takeWhile isDg = digitsL l := rfl
  rw [hdd] at hwl htw
  have HD := Lib.hid (digs_lib (l.drop (signL l).length))
  generalize l.drop (signL l).length = s at *
  generalize digitsL l = d at *
  generalize s.dropWhile isDg = r at *
  generalize allL l = al at *
  have hx1 : (bs s).extract 0 d.length = bs d := by rw [bs_take, htw]
  have hx2 : (bs l).extract 0 al.length = bs al := by rw [bs_take, t1]
  have HP := Lib.hid (fun W hW => Parse_lib al a W (by omega) hW)
  have zs : (bs s).size = s.length := bs_size s
  have zr : (bs r).size = r.length := bs_size r
  have zl : (bs l).size = l.length := bs_size l
  have zd : (bs d).size = d.length := bs_size d
  have za : (bs al).size = al.length := bs_size al
  have k1 : (d.length : Int) ≤ (s.length : Int) := by omega
  have k2 : (al.length : Int) ≤ (l.length : Int) := by omega
  have k3 : d.length ≤ s.length := by omega
  have k4 : al.length ≤ l.length := by omega
  have HA := Lib.hid (show al.length = l.length - s.length + d.length ∧ s.length ≤ l.length from ⟨t2, t4⟩)
  have e1 : wrap64 ((s.length : Int) - (r.length : Int)) = (d.length : Int) := wrap_nat d.length (by omega) (by omega)
  have e0 : wrap64 ((l.length : Int) - (s.length : Int)) = ((l.length - s.length : Nat) : Int) := wrap_nat (l.length - s.length) (by omega) (by omega)
  have e2 : wrap64 (((l.length - s.length : Nat) : Int) + (d.length : Int)) = (al.length : Int) := wrap_nat al.length (by omega) (by omega)
  have HE := Lib.hid hE
  have HWV := Lib.hid hWV
  have HRV := Lib.hid hRV
  have HXV := Lib.hid hXV
  have HBV := Lib.hid hbV
  clear t1 t2 t3 t4 hwl htw hdd hE h hW hWV hRV hXV hbV
  go_enter Tryz.func40, Tryz.ntmps40
  go_wp2_with fail
  generalize w.alloc (.cells #[.int .i64 0, .bool false, .int .i64 0, .string ⟨#[]⟩, .slice none 0 0, .slice none 0 0] tJ) = V at *
  refine (HT.out _).mono ?_
  rintro e w1 ⟨rfl, rfl⟩
  go_wp2_with fail
  refine (HD.out _).mono ?_
  rintro e w2 ⟨rfl, hb⟩
  have HB2 := Lib.hid (HBV.out.trans (hb.mono (by omega)))
  have HR2 := Lib.hid (HRV.out.below hb)
  have HW2 := Lib.hid (HWV.out.keep hb)
  have HX2 := Lib.hid ((hb.block w.heap.size (by omega)).trans HXV.out)
  have c2 := HR2.out.c0
  have lR2 := HR2.out.lt
  clear hb
  go_wp2_with fail
  go_quiet (fail)
  go_wp2_with fail
  refine (HP.out _ (HW2.out.keep (below_drewN' (Below.refl _ w2) nq))).mono ?_
  rintro e w3 ⟨hb, he⟩
  have HR3 := Lib.hid (HR2.out.below ((below_drewN' (Below.refl _ w2) nq).trans (hb.mono (Nat.le_refl _))))
  have HW3 := Lib.hid (HW2.out.keep ((below_drewN' (Below.refl _ w2) nq).trans (hb.mono (Nat.le_refl _))))
  have HX3 := Lib.hid ((hb.block w.heap.size (Array.getElem?_eq_some_iff.1 HX2.out).1).trans HX2.out)
  have HK3 := Lib.hid (but_below' (T := R) (HB2.out.trans (((below_drewN' (Below.refl _ w2) nq).trans (hb.mono (Nat.le_refl _))).mono HB2.out.size)))
  have HZ3 := Lib.hid (HK3.out.size)
  have hx3 : (bs l).extract al.length l.length = bs (l.drop al.length) := bs_drop l al.length
  clear hb
  rcases he with ⟨m, hm, rfl⟩ | ⟨hm, n, tp, p, rfl⟩
  · have hE2 := HE.out
    rw [hm] at hE2
    simp only at hE2
    have HM := Lib.hid hm
    clear hm
    by_cases hd : 1 < d.length
    · have k5 : (1 : Int) < (d.length : Int) := by omega
      obtain ⟨c9, d9, hd9⟩ : ∃ c9 d9, d = c9 :: d9 := by
        cases d with
        | nil => simp at hd
        | cons c9 d9 => exact ⟨c9, d9, rfl⟩
      have k6 : (0 : Int) < (d.length : Int) := by omega
      have k7 : 0 < d.length := by omega
      have q6 : ∀ h, (bs d)[0]'h = c9 := by
        rw [hd9]
        intro h
        rfl
      have hh : d.head? = some c9 := by rw [hd9]; rfl
      rw [hh] at hE2
      clear hd9 hh
      by_cases h48 : c9 = 48
      · have q7 : ((c9.toNat : Int) == 48) = true := by rw [h48]; rfl
        rw [if_pos ⟨hd, by rw [h48]⟩] at hE2
        have HE2 := Lib.hid hE2
        clear hE2 h48 hd
        go_wp2_with fail
        have hFl := fail_any a R 150 l nest .nilIface w3 HR3.out (.nil a) HW3.out
        refine hFl.mono ?_
        rintro e w4 ⟨rfl, hs⟩
        have HR4 := Lib.hid hs.1
        have c4 := hs.1.c0
        have z4 := hs.1.z 0
        have lR4 := hs.1.lt
        have hX4 := (hs.2.block w.heap.size (Array.getElem?_eq_some_iff.1 HX3.out).1 (by omega)).trans HX3.out
        have hS4 : Steps w (w4.setCell ⟨R, 0, none⟩ (.string (bs (l.drop al.length)))) R (l.drop al.length) nest (errV a 150) := ⟨hs.1.put0 _, (HK3.out.trans (but_mono hs.2 HZ3.out)).trans (Lz.KeptBut.setT _ _ _ _ _)⟩
        have hX5 : (w4.setCell ⟨R, 0, none⟩ (.string (bs (l.drop al.length)))).heap[w.heap.size]? = _ := (heap_setCell_other _ _ _ _ (by show w.heap.size ≠ R; omega)).trans hX4
        obtain ⟨x0, x1, x2, x3, x4, x5⟩ := six_at hX5
        have z2 := fun j => frozen_of_row _ _ j _ _ hX5
        have lX2 : w.heap.size < (w4.setCell ⟨R, 0, none⟩ (.string (bs (l.drop al.length)))).heap.size := (Array.getElem?_eq_some_iff.1 hX5).1
        have HX2 := Lib.hid hX5
        have HS2 := Lib.hid hS4
        clear hs hX4 hX5 hS4
        go_wp2_with fail
        have hR9 := set6 (b0 := .int .i64 2) (b1 := .bool false) (b2 := .int .i64 m) (b3 := .string ⟨#[]⟩) (b4 := .slice none 0 0) (b5 := .slice none 0 0) HX2.out
        have hS9 := set6_steps HS2.out (Nat.le_refl _) lR (.int .i64 2) (.bool false) (.int .i64 m) (.string ⟨#[]⟩) (.slice none 0 0) (.slice none 0 0)
        generalize ((((((World.setCell (w4.setCell ⟨R, 0, none⟩ (.string (bs (l.drop al.length)))) ⟨w.heap.size, 0, none⟩ (.int .i64 2)).setCell ⟨w.heap.size, 1, none⟩ (.bool false)).setCell ⟨w.heap.size, 2, none⟩ (.int .i64 m)).setCell ⟨w.heap.size, 3, none⟩ (.string ⟨#[]⟩)).setCell ⟨w.heap.size, 4, none⟩ (.slice none 0 0)).setCell ⟨w.heap.size, 5, none⟩ (.slice none 0 0)) = W9 at *
        obtain ⟨y0, y1, y2, y3, y4, y5⟩ := six_at hR9
        exact bodyPost_ret (v := .agg #[.int .i64 2, .bool false, .int .i64 m, .string ⟨#[]⟩, .slice none 0 0, .slice none 0 0]) (by simp [results, Tryz.results40, go_sem, y0, y1, y2, y3, y4, y5]) rfl
          (GotPost.ofEv (v := numJ m) (q := l.drop al.length) (ev := errV a 150) (.inr ⟨150, rfl, HE2.out.symm⟩) ⟨_, rfl, JD_flat _ _ 2 m false ByteArray.empty⟩ hS9)
      · have q7 : ((c9.toNat : Int) == 48) = false := by
          have : c9.toNat ≠ 48 := fun e => h48 (UInt8.toNat.inj e)
          simp; omega
        rw [if_neg (fun h => h48 (by simpa using h.2))] at hE2
        have HE2 := Lib.hid hE2
        clear hE2 h48 hd
        have c4 := HR3.out.c0
        have z4 := HR3.out.z 0
        have lR4 := HR3.out.lt
        have hS4 : Steps w (w3.setCell ⟨R, 0, none⟩ (.string (bs (l.drop al.length)))) R (l.drop al.length) nest .nilIface := ⟨HR3.out.put0 _, HK3.out.trans (Lz.KeptBut.setT _ _ _ _ _)⟩
        have hX5 : (w3.setCell ⟨R, 0, none⟩ (.string (bs (l.drop al.length)))).heap[w.heap.size]? = _ := (heap_setCell_other _ _ _ _ (by show w.heap.size ≠ R; omega)).trans HX3.out
        obtain ⟨x0, x1, x2, x3, x4, x5⟩ := six_at hX5
        have z2 := fun j => frozen_of_row _ _ j _ _ hX5
        have lX2 : w.heap.size < (w3.setCell ⟨R, 0, none⟩ (.string (bs (l.drop al.length)))).heap.size := (Array.getElem?_eq_some_iff.1 hX5).1
        have HX2 := Lib.hid hX5
        have HS2 := Lib.hid hS4
        clear hX5 hS4
        go_wp2_with fail
        have hR9 := set6 (b0 := .int .i64 2) (b1 := .bool false) (b2 := .int .i64 m) (b3 := .string ⟨#[]⟩) (b4 := .slice none 0 0) (b5 := .slice none 0 0) HX2.out
        have hS9 := set6_steps HS2.out (Nat.le_refl _) lR (.int .i64 2) (.bool false) (.int .i64 m) (.string ⟨#[]⟩) (.slice none 0 0) (.slice none 0 0)
        generalize ((((((World.setCell (w3.setCell ⟨R, 0, none⟩ (.string (bs (l.drop al.length)))) ⟨w.heap.size, 0, none⟩ (.int .i64 2)).setCell ⟨w.heap.size, 1, none⟩ (.bool false)).setCell ⟨w.heap.size, 2, none⟩ (.int .i64 m)).setCell ⟨w.heap.size, 3, none⟩ (.string ⟨#[]⟩)).setCell ⟨w.heap.size, 4, none⟩ (.slice none 0 0)).setCell ⟨w.heap.size, 5, none⟩ (.slice none 0 0)) = W9 at *
        obtain ⟨y0, y1, y2, y3, y4, y5⟩ := six_at hR9
        exact bodyPost_ret (v := .agg #[.int .i64 2, .bool false, .int .i64 m, .string ⟨#[]⟩, .slice none 0 0, .slice none 0 0]) (by simp [results, Tryz.results40, go_sem, y0, y1, y2, y3, y4, y5]) rfl
          (GotPost.ofEv (v := numJ m) (q := l.drop al.length) (ev := .nilIface) (.inl ⟨rfl, HE2.out.symm⟩) ⟨_, rfl, JD_flat _ _ 2 m false ByteArray.empty⟩ hS9)
    · have k5 : ¬ (1 : Int) < (d.length : Int) := by omega
      rw [if_neg (fun h => hd h.1)] at hE2
      have HE2 := Lib.hid hE2
      clear hE2 hd
      have c4 := HR3.out.c0
      have z4 := HR3.out.z 0
      have lR4 := HR3.out.lt
      have hS4 : Steps w (w3.setCell ⟨R, 0, none⟩ (.string (bs (l.drop al.length)))) R (l.drop al.length) nest .nilIface := ⟨HR3.out.put0 _, HK3.out.trans (Lz.KeptBut.setT _ _ _ _ _)⟩
      have hX5 : (w3.setCell ⟨R, 0, none⟩ (.string (bs (l.drop al.length)))).heap[w.heap.size]? = _ := (heap_setCell_other _ _ _ _ (by show w.heap.size ≠ R; omega)).trans HX3.out
      obtain ⟨x0, x1, x2, x3, x4, x5⟩ := six_at hX5
      have z2 := fun j => frozen_of_row _ _ j _ _ hX5
      have lX2 : w.heap.size < (w3.setCell ⟨R, 0, none⟩ (.string (bs (l.drop al.length)))).heap.size := (Array.getElem?_eq_some_iff.1 hX5).1
      have HX2 := Lib.hid hX5
      have HS2 := Lib.hid hS4
      clear hX5 hS4
      go_wp2_with fail
      have hR9 := set6 (b0 := .int .i64 2) (b1 := .bool false) (b2 := .int .i64 m) (b3 := .string ⟨#[]⟩) (b4 := .slice none 0 0) (b5 := .slice none 0 0) HX2.out
      have hS9 := set6_steps HS2.out (Nat.le_refl _) lR (.int .i64 2) (.bool false) (.int .i64 m) (.string ⟨#[]⟩) (.slice none 0 0) (.slice none 0 0)
      generalize ((((((World.setCell (w3.setCell ⟨R, 0, none⟩ (.string (bs (l.drop al.length)))) ⟨w.heap.size, 0, none⟩ (.int .i64 2)).setCell ⟨w.heap.size, 1, none⟩ (.bool false)).setCell ⟨w.heap.size, 2, none⟩ (.int .i64 m)).setCell ⟨w.heap.size, 3, none⟩ (.string ⟨#[]⟩)).setCell ⟨w.heap.size, 4, none⟩ (.slice none 0 0)).setCell ⟨w.heap.size, 5, none⟩ (.slice none 0 0)) = W9 at *
      obtain ⟨y0, y1, y2, y3, y4, y5⟩ := six_at hR9
      exact bodyPost_ret (v := .agg #[.int .i64 2, .bool false, .int .i64 m, .string ⟨#[]⟩, .slice none 0 0, .slice none 0 0]) (by simp [results, Tryz.results40, go_sem, y0, y1, y2, y3, y4, y5]) rfl
        (GotPost.ofEv (v := numJ m) (q := l.drop al.length) (ev := .nilIface) (.inl ⟨rfl, HE2.out.symm⟩) ⟨_, rfl, JD_flat _ _ 2 m false ByteArray.empty⟩ hS9)
  · have hE2 : E = .error 150 := by
      rw [← HE.out]
      cases hp : Lib.parseIntB 64 al with
      | ok m => exact absurd hp (hm m)
      | _ => rfl
    have HE2 := Lib.hid hE2
    clear hE2 hm
    go_wp2_with fail
    have hFl := fail_any a R 150 l nest .nilIface w3 HR3.out (.nil a) HW3.out
    refine hFl.mono ?_
    rintro e w4 ⟨rfl, hs⟩
    have HR4 := Lib.hid hs.1
    have c4 := hs.1.c0
    have z4 := hs.1.z 0
    have lR4 := hs.1.lt
    have hX4 := (hs.2.block w.heap.size (Array.getElem?_eq_some_iff.1 HX3.out).1 (by omega)).trans HX3.out
    have hS4 : Steps w (w4.setCell ⟨R, 0, none⟩ (.string (bs (l.drop al.length)))) R (l.drop al.length) nest (errV a 150) := ⟨hs.1.put0 _, (HK3.out.trans (but_mono hs.2 HZ3.out)).trans (Lz.KeptBut.setT _ _ _ _ _)⟩
    have hX5 : (w4.setCell ⟨R, 0, none⟩ (.string (bs (l.drop al.length)))).heap[w.heap.size]? = _ := (heap_setCell_other _ _ _ _ (by show w.heap.size ≠ R; omega)).trans hX4
    obtain ⟨x0, x1, x2, x3, x4, x5⟩ := six_at hX5
    have z2 := fun j => frozen_of_row _ _ j _ _ hX5
    have lX2 : w.heap.size < (w4.setCell ⟨R, 0, none⟩ (.string (bs (l.drop al.length)))).heap.size := (Array.getElem?_eq_some_iff.1 hX5).1
    have HX2 := Lib.hid hX5
    have HS2 := Lib.hid hS4
    clear hs hX4 hX5 hS4
    go_wp2_with fail
    have hR9 := set6 (b0 := .int .i64 2) (b1 := .bool false) (b2 := .int .i64 n) (b3 := .string ⟨#[]⟩) (b4 := .slice none 0 0) (b5 := .slice none 0 0) HX2.out
    have hS9 := set6_steps HS2.out (Nat.le_refl _) lR (.int .i64 2) (.bool false) (.int .i64 n) (.string ⟨#[]⟩) (.slice none 0 0) (.slice none 0 0)
    generalize ((((((World.setCell (w4.setCell ⟨R, 0, none⟩ (.string (bs (l.drop al.length)))) ⟨w.heap.size, 0, none⟩ (.int .i64 2)).setCell ⟨w.heap.size, 1, none⟩ (.bool false)).setCell ⟨w.heap.size, 2, none⟩ (.int .i64 n)).setCell ⟨w.heap.size, 3, none⟩ (.string ⟨#[]⟩)).setCell ⟨w.heap.size, 4, none⟩ (.slice none 0 0)).setCell ⟨w.heap.size, 5, none⟩ (.slice none 0 0)) = W9 at *
    obtain ⟨y0, y1, y2, y3, y4, y5⟩ := six_at hR9
    exact bodyPost_ret (v := .agg #[.int .i64 2, .bool false, .int .i64 n, .string ⟨#[]⟩, .slice none 0 0, .slice none 0 0]) (by simp [results, Tryz.results40, go_sem, y0, y1, y2, y3, y4, y5]) rfl
      (GotPost.ofEv (v := numJ n) (q := l.drop al.length) (ev := errV a 150) (.inr ⟨150, rfl, HE2.out⟩) ⟨_, rfl, JD_flat _ _ 2 n false ByteArray.empty⟩ hS9)
end Go.Proofs.YtamclieppbnpiabGreatDoor
