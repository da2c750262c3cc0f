/-
  An object's next key: by the program.
-/
import Derived.Test.YtamclieppbnpiabGreatDoorProg
import Derived.Test.YtamclieppbnpiabGreatDoorReg
import Derived.WalkKit
import Derived.WalkSpells
import Derived.WalkLawsBesides
import Derived.Lib.Hide
import Derived.Lib.MinMax
import Derived.Deep.QuietTactic
import Derived.BigQuiet
import Derived.OwnWalk
import Derived.Deep.AppendLies
import Derived.KernelRfl
import Derived.Test.YtamclieppbnpiabGreatDoorJw18
import Derived.Test.YtamclieppbnpiabGreatDoorJw16
set_option linter.unusedSimpArgs false
set_option linter.unusedVariables false
namespace Go.Proofs.YtamclieppbnpiabGreatDoor
open Go Go.RowKit Go.Maps
open Fz (HoldsS)
open Lz (wpList_append_run)

theorem apart_cells {w : World} {base : Nat} {e t : TypeId} {k : Nat} {v : Value} {n : Nat} {xs : List Value} {X : Nat} {cs : Array Value} {fz : Nat × Nat} (h : w.ownsRow base e k v n xs) (hX : w.heap[X]? = some (.cells cs t fz)) (ht : t ≠ e) : v.ownBlock ≠ some X := by
  intro hv
  rcases h.2 with ⟨rfl, _⟩ | ⟨g, cap, cur, rfl, hb, hg, rest⟩
  · simp [Value.ownBlock] at hv
  · have hgX : g = X := by simpa [Value.ownBlock] using hv
    subst hgX
    rw [hX] at hg
    simp only [Option.some.injEq, Obj.cells.injEq] at hg
    exact ht hg.2.1
/-- What a call has left as it was: all but R, X and one row. -/
structure But3 (w w' : World) (R X : Nat) (row : Option Nat) : Prop where
  os : w'.os = w.os
  tape : w'.tape = w.tape
  output : w'.output = w.output
  size : w.heap.size ≤ w'.heap.size
  block : ∀ k, k < w.heap.size → k ≠ R → k ≠ X → row ≠ some k → w'.heap[k]? = w.heap[k]?
theorem But3.of_but {w w' : World} {R X : Nat} {row : Option Nat} (h : Lz.KeptBut w.heap.size R w w') : But3 w w' R X row := ⟨h.os, h.tape, h.output, h.size, fun k hk h1 _ _ => h.block k hk h1⟩
theorem But3.refl (w : World) (R X : Nat) (row : Option Nat) : But3 w w R X row := ⟨rfl, rfl, rfl, Nat.le_refl _, fun _ _ _ _ _ => rfl⟩
theorem But3.but {a b c : World} {R X : Nat} {row : Option Nat} (h : But3 a b R X row) (k : Lz.KeptBut b.heap.size R b c) : But3 a c R X row :=
  ⟨k.os.trans h.os, k.tape.trans h.tape, k.output.trans h.output, Nat.le_trans h.size k.size, fun j hj h1 h2 h3 => (k.block j (by have := h.size; omega) h1).trans (h.block j hj h1 h2 h3)⟩
theorem But3.trans {a b c : World} {R X : Nat} {row row2 : Option Nat} (h : But3 a b R X row) (k : But3 b c R X row2) (hr : row2 = row ∨ ∃ j, row2 = some j ∧ a.heap.size ≤ j) : But3 a c R X row :=
  ⟨k.os.trans h.os, k.tape.trans h.tape, k.output.trans h.output, Nat.le_trans h.size k.size, fun j hj h1 h2 h3 => (k.block j (by have := h.size; omega) h1 h2 (fun e => by
    rcases hr with rfl | ⟨i, rfl, hi⟩
    · exact h3 e
    · cases e; omega)).trans (h.block j hj h1 h2 h3)⟩
theorem but3_grown {w w' : World} {R X : Nat} {row : Option Nat} (h : w.grownBy w' row) : But3 w w' R X row := ⟨h.os, h.tape, h.output, h.size, fun k hk _ _ h3 => h.block k hk (fun e => h3 e.symm)⟩
theorem but3_set {w : World} {R X o : Nat} {row : Option Nat} (v : Value) : But3 w (w.setCell ⟨X, o, none⟩ v) R X row := ⟨rfl, rfl, rfl, by simp [World.setCell], fun k _ _ h2 _ => heap_setCell_other _ _ _ _ h2⟩
theorem but3_alloc {w : World} {R X : Nat} {row : Option Nat} (o : Obj) : But3 w (w.alloc o) R X row := .of_but (but_below' (below_new w o))
/-- What an object's key leaves. -/
def KeyPost (a : Addr) (R X base : Nat) (nest kind : Int) (ks lv : Value) (keys : List ByteArray) (E : Except Int (ByteArray × List UInt8)) (e : Ending) (w w' : World) : Prop :=
  e = .returned (.tuple #[]) ∧ ∃ ks' keys' q ev, RdAt w' R q nest ev ∧ w'.heap[X]? = some (.cells #[.int .i64 kind, .bool false, .int .i64 0, .string ⟨#[]⟩, ks', lv] tJ (0, 0)) ∧ w'.ownsRow base sK 1 ks' keys'.length (strCells keys') ∧
    (ks'.ownBlock = ks.ownBlock ∨ ∃ k, ks'.ownBlock = some k ∧ w.heap.size ≤ k) ∧ But3 w w' R X ks.ownBlock ∧ ((ev = .nilIface ∧ ∃ k, keys' = keys ++ [k] ∧ E = .ok (k, q)) ∨ ∃ c, ev = errV a c ∧ E = .error c)

set_option maxRecDepth 100000 in
set_option maxHeartbeats 8000000 in
theorem key_any (a : Addr) (R X base : Nat) (l : List UInt8) (nest kind : Int) (ks lv : Value) (keys : List ByteArray) (w : World) (E : Except Int (ByteArray × List UInt8)) (hE : keyL keys l = E) (h : RdAt w R l nest .nilIface)
    (hX : w.heap[X]? = some (.cells #[.int .i64 kind, .bool false, .int .i64 0, .string ⟨#[]⟩, ks, lv] tJ (0, 0))) (hown : w.ownsRow base sK 1 ks keys.length (strCells keys)) (hk : keys.length ≤ 100000000) (hb : base ≤ w.heap.size) (hRb : R < base) (hXR : X ≠ R) (hX0 : 9 ≤ X) (hl : l.length ≤ 100000000) (hW : WJ a w) (hR : 9 ≤ R) :
    Calls Tryz.prog 78 #[.pointer (some ⟨R, 0, none⟩), .pointer (some ⟨X, 0, none⟩)] w fun e w' => KeyPost a R X base nest kind ks lv keys E e w w' := by
  have lR := h.lt
  have HT := take_any R [34] l nest .nilIface w h
  unfold keyL at hE
  cases hq : takeP [34] l with
  | none =>
    rw [hq] at hE HT
    have HT := Lib.hid HT
    have HE := Lib.hid hE
    have HX := Lib.hid hX
    have HO := Lib.hid hown
    have HW := Lib.hid hW
    clear hE h hX hown hW hq
    go_enter Tryz.func78, Tryz.ntmps78
    go_wp2_with fail
    refine HT.out.mono ?_
    rintro e w1 ⟨rfl, hs⟩
    have HFl := Lib.hid (fail_any a R 150 l nest .nilIface w1 hs.1 (.nil a) (HW.out.but hs.2 HW.out.low hR))
    have HS := Lib.hid hs
    clear hs
    go_wp2_with fail
    refine HFl.out.mono ?_
    rintro e w2 ⟨rfl, hs⟩
    have HS2 := Lib.hid (HS.out.trans hs)
    clear hs
    go_wp2_with fail
    refine bodyPost_ret (results_none rfl _ _ _) rfl ?_
    exact ⟨rfl, ks, keys, l, errV a 150, HS2.out.1, (HS2.out.2.block X (Array.getElem?_eq_some_iff.1 HX.out).1 hXR).trans HX.out, own_same HO.out (fun g hg => HS2.out.2.block g (HO.out.lt g hg).2 (by have := (HO.out.lt g hg).1; omega)), .inl rfl, .of_but HS2.out.2, .inr ⟨150, rfl, HE.out.symm⟩⟩
  | some r =>
    rw [hq] at hE HT
    have HT := Lib.hid HT
    have HE := Lib.hid hE
    have HX := Lib.hid hX
    have HO := Lib.hid hown
    have HW := Lib.hid hW
    have hrl : r.length ≤ 100000000 := by have := takeP_len hq; omega
    clear hE h hX hown hW hq
    go_enter Tryz.func78, Tryz.ntmps78
    go_wp2_with fail
    refine HT.out.mono ?_
    rintro e w1 ⟨rfl, hs⟩
    have HS := Lib.hid hs
    have HWd := Lib.hid (word_any a R r nest w1 _ rfl hs.1 hrl (HW.out.but hs.2 HW.out.low hR) hR)
    clear hs
    go_wp2_with fail
    refine HWd.out.mono ?_
    intro e w2 hp
    obtain ⟨t, q, ev, he, rfl, hs, hcase⟩ := hp.ev
    have HS2 := Lib.hid (HS.out.trans hs)
    have HC := Lib.hid hcase
    have hX2 := (HS2.out.2.block X (Array.getElem?_eq_some_iff.1 HX.out).1 hXR).trans HX.out
    have hO2 := own_same HO.out (fun g hg => HS2.out.2.block g (HO.out.lt g hg).2 (by have := (HO.out.lt g hg).1; omega))
    obtain ⟨A, c, rfl, hc, _, hS⟩ := holdsS_own hO2
    have HX2 := Lib.hid hX2
    have HO2 := Lib.hid hO2
    have HCt := Lib.hid (Contains_lib keys keys.length A c (bs t) w2 (Nat.le_refl _) hS (by omega))
    rw [List.take_length] at HCt
    have HW2 := Lib.hid (HW.out.but HS2.out.2 HW.out.low hR)
    obtain ⟨x0, x1, x2, x3, x4, x5⟩ := six_at hX2
    have lX2 := (Array.getElem?_eq_some_iff.1 hX2).1
    clear hp hs hcase hX2 hO2 hS
    go_wp2_with fail
    refine HCt.out.mono ?_
    rintro e w3 ⟨rfl, rfl⟩
    cases hi : inB (bs t) keys with
    | true =>
      have HI := Lib.hid hi
      clear hi
      have HFl := Lib.hid (fail_any a R 150 q nest ev w3 HS2.out.1 he HW2.out)
      go_wp2_with fail
      refine HFl.out.mono ?_
      rintro e w4 ⟨rfl, hs⟩
      have HS3 := Lib.hid (HS2.out.trans hs)
      have HX3 := Lib.hid ((hs.2.block X lX2 hXR).trans HX2.out)
      have HO3 := Lib.hid (own_same HO2.out (fun g hg => hs.2.block g (HO2.out.lt g hg).2 (by have := (HO2.out.lt g hg).1; omega)))
      clear hs x0 x1 x2 x3 x4 x5
      obtain ⟨A9, c9, w5, hrun, hO5, hg5, hat5⟩ := push_str (x := bs t) (g := w4.heap.size) (W := w4.alloc (.cells #[.string (bs t)] sK)) (heap_alloc_new w4 _) (HO3.out.alloc _) (by omega) (by have := HS3.out.2.size; simp; omega)
      have hbA := below_new w4 (.cells #[.string (bs t)] sK)
      have hneX : (Value.slice A keys.length c).ownBlock ≠ some X := apart_cells HO3.out HX3.out (by decide)
      have lX3 := (Array.getElem?_eq_some_iff.1 HX3.out).1
      have lR3 := HS3.out.1.lt
      have hX5 := (hg5.block X (by simp; omega) (fun e => hneX e.symm)).trans ((hbA.block X lX3).trans HX3.out)
      have hR5 : RdAt w5 R q nest (failV a ev 150) := (hg5.block R (by simp; omega) (fun e => by have := (HO3.out.lt R e.symm).1; omega)).trans ((hbA.block R lR3).trans HS3.out.1)
      have hneX5 : (Value.slice A9 (keys.length + 1) c9).ownBlock ≠ some X := apart_cells hO5 hX5 (by decide)
      have hX6 : (w5.setCell ⟨X, 4, none⟩ (.slice A9 (keys.length + 1) c9)).heap[X]? = some (.cells #[.int .i64 kind, .bool false, .int .i64 0, .string ⟨#[]⟩, .slice A9 (keys.length + 1) c9, lv] tJ (0, 0)) := by
        rw [heap_setCell_same w5 X 4 _ _ _ hX5]
        simp
      have hR6 : RdAt (w5.setCell ⟨X, 4, none⟩ (.slice A9 (keys.length + 1) c9)) R q nest (failV a ev 150) := (heap_setCell_other _ _ _ _ (by show R ≠ X; omega)).trans hR5
      have hO6 := own_same (w' := w5.setCell ⟨X, 4, none⟩ (.slice A9 (keys.length + 1) c9)) hO5 (fun g hg => heap_setCell_other _ _ _ _ (fun e => hneX5 (by rw [hg]; exact congrArg some e)))
      have hK6 : But3 w (w5.setCell ⟨X, 4, none⟩ (.slice A9 (keys.length + 1) c9)) R X (Value.slice A keys.length c).ownBlock := (((But3.of_but HS3.out.2).trans (row2 := (Value.slice A keys.length c).ownBlock) (but3_alloc _) (.inl rfl)).trans (but3_grown hg5) (.inl rfl)).trans (row2 := (Value.slice A keys.length c).ownBlock) (but3_set _) (.inl rfl)
      have hW6 : WJ a (w5.setCell ⟨X, 4, none⟩ (.slice A9 (keys.length + 1) c9)) := HW.out.stay hK6.size (fun k hk => hK6.block k (by have := HW.out.low; omega) (by omega) (by omega) (fun e => by have := (HO3.out.lt k e).1; omega))
      have hat6 : (Value.slice A9 (keys.length + 1) c9).ownBlock = (Value.slice A keys.length c).ownBlock ∨ ∃ k, (Value.slice A9 (keys.length + 1) c9).ownBlock = some k ∧ w.heap.size ≤ k := by
        rcases hat5 with e | e
        · exact .inl e
        · exact .inr ⟨_, e, by have := HS3.out.2.size; simp; omega⟩
      obtain ⟨p0, p1, p2, p3, p4, p5⟩ := six_at hX5
      have zz := frozen_of_row w5 _ 4 _ _ hX5
      have lX5 := (Array.getElem?_eq_some_iff.1 hX5).1
      obtain ⟨x0, x1, x2, x3, x4, x5⟩ := six_at HX3.out
      have HX6 := Lib.hid hX6
      have HR6 := Lib.hid hR6
      have HO6 := Lib.hid hO6
      have HK6 := Lib.hid hK6
      have HW6 := Lib.hid hW6
      have HA6 := Lib.hid hat6
      clear hO5 hg5 hat5 hX5 hR5 hX6 hR6 hO6 hK6 hW6 hat6 hneX5 hneX hbA
      go_wp2_with (at_builtin; go_must (refine wpList_append_run rfl _ _ 22 22 rfl rfl rfl hrun ?_))
      have HSk := Lib.hid (skip_any R q nest (failV a ev 150) _ HR6.out)
      go_wp2_with fail
      refine HSk.out.mono ?_
      rintro e w7 ⟨rfl, hs7⟩
      have HR7 := Lib.hid hs7.1
      have HK7 := Lib.hid (HK6.out.but hs7.2)
      have HX7 := Lib.hid ((hs7.2.block X (Array.getElem?_eq_some_iff.1 HX6.out).1 hXR).trans HX6.out)
      have HO7 := Lib.hid (own_same HO6.out (fun g hg => hs7.2.block g (HO6.out.lt g hg).2 (by have := (HO6.out.lt g hg).1; omega)))
      have HW7 := Lib.hid (HW6.out.but hs7.2 HW6.out.low hR)
      clear hs7
      have hT8 := take_any R [58] (skipL q) nest (failV a ev 150) w7 HR7.out
      cases hq8 : takeP [58] (skipL q) with
      | none =>
        rw [hq8] at hT8
        have HT8 := Lib.hid hT8
        have HQ8 := Lib.hid hq8
        clear hT8 hq8
        go_wp2_with fail
        refine HT8.out.mono ?_
        rintro e w8 ⟨rfl, hs8⟩
        have HW8 := Lib.hid (HW7.out.but hs8.2 HW7.out.low hR)
        have HFl8 := Lib.hid (fail_any a R 150 (skipL q) nest (failV a ev 150) w8 hs8.1 (he.fail 150) HW8.out)
        have HS8 := Lib.hid hs8
        clear hs8
        go_wp2_with fail
        refine HFl8.out.mono ?_
        rintro e w9 ⟨rfl, hs9⟩
        have HS9 := Lib.hid (Steps.trans HS8.out hs9)
        clear hs9
        have HSk9 := Lib.hid (skip_any R (skipL q) nest (failV a (failV a ev 150) 150) w9 HS9.out.1)
        go_wp2_with fail
        refine HSk9.out.mono ?_
        rintro e w10 ⟨rfl, hs10⟩
        have hs := Steps.trans HS9.out hs10
        have HS := Lib.hid hs
        clear hs hs10
        go_wp2_with fail
        go_end0
        refine ⟨rfl, _, keys ++ [bs t], _, _, HS.out.1, (HS.out.2.block X (Array.getElem?_eq_some_iff.1 HX7.out).1 hXR).trans HX7.out, ?_, HA6.out, HK7.out.but HS.out.2, .inr ?_⟩
        · have := own_same HO7.out (fun g hg => HS.out.2.block g (HO7.out.lt g hg).2 (by have := (HO7.out.lt g hg).1; omega))
          rw [List.length_append, List.length_singleton] at this ⊢
          exact this
        · rcases HC.out with ⟨rfl, hw⟩ | ⟨c', rfl, hw⟩
          · exact ⟨150, rfl, by rw [← HE.out, hw]; simp only; rw [if_pos HI.out]⟩
          · exact ⟨c', rfl, by rw [← HE.out, hw]⟩
      | some u =>
        rw [hq8] at hT8
        have HT8 := Lib.hid hT8
        have HQ8 := Lib.hid hq8
        clear hT8 hq8
        go_wp2_with fail
        refine HT8.out.mono ?_
        rintro e w8 ⟨rfl, hs8⟩
        have HS8 := Lib.hid (show Steps w7 w8 R u nest (failV a ev 150) from hs8)
        clear hs8
        have HSk9 := Lib.hid (skip_any R u nest (failV a ev 150) w8 HS8.out.1)
        go_wp2_with fail
        refine HSk9.out.mono ?_
        rintro e w10 ⟨rfl, hs10⟩
        have hs := Steps.trans HS8.out hs10
        have HS := Lib.hid hs
        clear hs hs10
        go_wp2_with fail
        go_end0
        refine ⟨rfl, _, keys ++ [bs t], _, _, HS.out.1, (HS.out.2.block X (Array.getElem?_eq_some_iff.1 HX7.out).1 hXR).trans HX7.out, ?_, HA6.out, HK7.out.but HS.out.2, ?_⟩
        · have := own_same HO7.out (fun g hg => HS.out.2.block g (HO7.out.lt g hg).2 (by have := (HO7.out.lt g hg).1; omega))
          rw [List.length_append, List.length_singleton] at this ⊢
          exact this
        · right
          rcases HC.out with ⟨rfl, hw⟩ | ⟨c', rfl, hw⟩
          · exact ⟨150, rfl, by rw [← HE.out, hw]; simp only; rw [if_pos HI.out]⟩
          · exact ⟨c', rfl, by rw [← HE.out, hw]⟩
    | false =>
      have HI : Hid (¬ inB (bs t) keys = true) := Lib.hid (by rw [hi]; simp)
      have HS3 := HS2
      have HX3 := HX2
      have HO3 := HO2
      clear hi x0 x1 x2 x3 x4 x5
      obtain ⟨A9, c9, w5, hrun, hO5, hg5, hat5⟩ := push_str (x := bs t) (g := w3.heap.size) (W := w3.alloc (.cells #[.string (bs t)] sK)) (heap_alloc_new w3 _) (HO3.out.alloc _) (by omega) (by have := HS3.out.2.size; simp; omega)
      have hbA := below_new w3 (.cells #[.string (bs t)] sK)
      have hneX : (Value.slice A keys.length c).ownBlock ≠ some X := apart_cells HO3.out HX3.out (by decide)
      have lX3 := (Array.getElem?_eq_some_iff.1 HX3.out).1
      have lR3 := HS3.out.1.lt
      have hX5 := (hg5.block X (by simp; omega) (fun e => hneX e.symm)).trans ((hbA.block X lX3).trans HX3.out)
      have hR5 : RdAt w5 R q nest ev := (hg5.block R (by simp; omega) (fun e => by have := (HO3.out.lt R e.symm).1; omega)).trans ((hbA.block R lR3).trans HS3.out.1)
      have hneX5 : (Value.slice A9 (keys.length + 1) c9).ownBlock ≠ some X := apart_cells hO5 hX5 (by decide)
      have hX6 : (w5.setCell ⟨X, 4, none⟩ (.slice A9 (keys.length + 1) c9)).heap[X]? = some (.cells #[.int .i64 kind, .bool false, .int .i64 0, .string ⟨#[]⟩, .slice A9 (keys.length + 1) c9, lv] tJ (0, 0)) := by
        rw [heap_setCell_same w5 X 4 _ _ _ hX5]
        simp
      have hR6 : RdAt (w5.setCell ⟨X, 4, none⟩ (.slice A9 (keys.length + 1) c9)) R q nest ev := (heap_setCell_other _ _ _ _ (by show R ≠ X; omega)).trans hR5
      have hO6 := own_same (w' := w5.setCell ⟨X, 4, none⟩ (.slice A9 (keys.length + 1) c9)) hO5 (fun g hg => heap_setCell_other _ _ _ _ (fun e => hneX5 (by rw [hg]; exact congrArg some e)))
      have hK6 : But3 w (w5.setCell ⟨X, 4, none⟩ (.slice A9 (keys.length + 1) c9)) R X (Value.slice A keys.length c).ownBlock := (((But3.of_but HS3.out.2).trans (row2 := (Value.slice A keys.length c).ownBlock) (but3_alloc _) (.inl rfl)).trans (but3_grown hg5) (.inl rfl)).trans (row2 := (Value.slice A keys.length c).ownBlock) (but3_set _) (.inl rfl)
      have hW6 : WJ a (w5.setCell ⟨X, 4, none⟩ (.slice A9 (keys.length + 1) c9)) := HW.out.stay hK6.size (fun k hk => hK6.block k (by have := HW.out.low; omega) (by omega) (by omega) (fun e => by have := (HO3.out.lt k e).1; omega))
      have hat6 : (Value.slice A9 (keys.length + 1) c9).ownBlock = (Value.slice A keys.length c).ownBlock ∨ ∃ k, (Value.slice A9 (keys.length + 1) c9).ownBlock = some k ∧ w.heap.size ≤ k := by
        rcases hat5 with e | e
        · exact .inl e
        · exact .inr ⟨_, e, by have := HS3.out.2.size; simp; omega⟩
      obtain ⟨p0, p1, p2, p3, p4, p5⟩ := six_at hX5
      have zz := frozen_of_row w5 _ 4 _ _ hX5
      have lX5 := (Array.getElem?_eq_some_iff.1 hX5).1
      obtain ⟨x0, x1, x2, x3, x4, x5⟩ := six_at HX3.out
      have HX6 := Lib.hid hX6
      have HR6 := Lib.hid hR6
      have HO6 := Lib.hid hO6
      have HK6 := Lib.hid hK6
      have HW6 := Lib.hid hW6
      have HA6 := Lib.hid hat6
      clear hO5 hg5 hat5 hX5 hR5 hX6 hR6 hO6 hK6 hW6 hat6 hneX5 hneX hbA
      go_wp2_with (at_builtin; go_must (refine wpList_append_run rfl _ _ 22 22 rfl rfl rfl hrun ?_))
      have HSk := Lib.hid (skip_any R q nest ev _ HR6.out)
      go_wp2_with fail
      refine HSk.out.mono ?_
      rintro e w7 ⟨rfl, hs7⟩
      have HR7 := Lib.hid hs7.1
      have HK7 := Lib.hid (HK6.out.but hs7.2)
      have HX7 := Lib.hid ((hs7.2.block X (Array.getElem?_eq_some_iff.1 HX6.out).1 hXR).trans HX6.out)
      have HO7 := Lib.hid (own_same HO6.out (fun g hg => hs7.2.block g (HO6.out.lt g hg).2 (by have := (HO6.out.lt g hg).1; omega)))
      have HW7 := Lib.hid (HW6.out.but hs7.2 HW6.out.low hR)
      clear hs7
      have hT8 := take_any R [58] (skipL q) nest ev w7 HR7.out
      cases hq8 : takeP [58] (skipL q) with
      | none =>
        rw [hq8] at hT8
        have HT8 := Lib.hid hT8
        have HQ8 := Lib.hid hq8
        clear hT8 hq8
        go_wp2_with fail
        refine HT8.out.mono ?_
        rintro e w8 ⟨rfl, hs8⟩
        have HW8 := Lib.hid (HW7.out.but hs8.2 HW7.out.low hR)
        have HFl8 := Lib.hid (fail_any a R 150 (skipL q) nest ev w8 hs8.1 he HW8.out)
        have HS8 := Lib.hid hs8
        clear hs8
        go_wp2_with fail
        refine HFl8.out.mono ?_
        rintro e w9 ⟨rfl, hs9⟩
        have HS9 := Lib.hid (Steps.trans HS8.out hs9)
        clear hs9
        have HSk9 := Lib.hid (skip_any R (skipL q) nest (failV a ev 150) w9 HS9.out.1)
        go_wp2_with fail
        refine HSk9.out.mono ?_
        rintro e w10 ⟨rfl, hs10⟩
        have hs := Steps.trans HS9.out hs10
        have HS := Lib.hid hs
        clear hs hs10
        go_wp2_with fail
        go_end0
        refine ⟨rfl, _, keys ++ [bs t], _, _, HS.out.1, (HS.out.2.block X (Array.getElem?_eq_some_iff.1 HX7.out).1 hXR).trans HX7.out, ?_, HA6.out, HK7.out.but HS.out.2, .inr ?_⟩
        · have := own_same HO7.out (fun g hg => HS.out.2.block g (HO7.out.lt g hg).2 (by have := (HO7.out.lt g hg).1; omega))
          rw [List.length_append, List.length_singleton] at this ⊢
          exact this
        · rcases HC.out with ⟨rfl, hw⟩ | ⟨c', rfl, hw⟩
          · exact ⟨150, rfl, by rw [← HE.out, hw]; simp only; rw [if_neg HI.out, HQ8.out]⟩
          · exact ⟨c', rfl, by rw [← HE.out, hw]⟩
      | some u =>
        rw [hq8] at hT8
        have HT8 := Lib.hid hT8
        have HQ8 := Lib.hid hq8
        clear hT8 hq8
        go_wp2_with fail
        refine HT8.out.mono ?_
        rintro e w8 ⟨rfl, hs8⟩
        have HS8 := Lib.hid (show Steps w7 w8 R u nest ev from hs8)
        clear hs8
        have HSk9 := Lib.hid (skip_any R u nest ev w8 HS8.out.1)
        go_wp2_with fail
        refine HSk9.out.mono ?_
        rintro e w10 ⟨rfl, hs10⟩
        have hs := Steps.trans HS8.out hs10
        have HS := Lib.hid hs
        clear hs hs10
        go_wp2_with fail
        go_end0
        refine ⟨rfl, _, keys ++ [bs t], _, _, HS.out.1, (HS.out.2.block X (Array.getElem?_eq_some_iff.1 HX7.out).1 hXR).trans HX7.out, ?_, HA6.out, HK7.out.but HS.out.2, ?_⟩
        · have := own_same HO7.out (fun g hg => HS.out.2.block g (HO7.out.lt g hg).2 (by have := (HO7.out.lt g hg).1; omega))
          rw [List.length_append, List.length_singleton] at this ⊢
          exact this
        · rcases HC.out with ⟨rfl, hw⟩ | ⟨c', rfl, hw⟩
          · exact .inl ⟨rfl, bs t, rfl, by rw [← HE.out, hw]; simp only; rw [if_neg HI.out, HQ8.out]⟩
          · exact .inr ⟨c', rfl, by rw [← HE.out, hw]⟩
end Go.Proofs.YtamclieppbnpiabGreatDoor
