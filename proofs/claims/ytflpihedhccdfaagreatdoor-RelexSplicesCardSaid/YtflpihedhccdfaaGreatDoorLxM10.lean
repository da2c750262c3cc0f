/-
  The first token of a text: by the program.
-/
import Derived.Test.YtflpihedhccdfaaGreatDoorProg
import Derived.Test.YtflpihedhccdfaaGreatDoorReg
import Derived.WalkKit
import Derived.WalkSpells
import Derived.WalkLawsBesides
import Derived.Lib.Hide
import Derived.Lib.MinMax
import Derived.Deep.QuietTactic
import Derived.BigQuiet
import Derived.OwnWalk
import Derived.Deep.AppendLies
import Derived.KernelRfl
import Derived.Shelf.Abstract
import Derived.Test.YtflpihedhccdfaaGreatDoorLxM9
import Derived.RangeFuncNested
import Derived.RangeFuncBound
import Derived.RangeFuncCalls
import Derived.RangeFuncLeaves
import Derived.RangeFuncBox
import Derived.OwnWalkIn
import Derived.TacticsInMore
import Derived.LoopNIn
import Derived.LoopIn
import Derived.Deep.RegionLaw
import Derived.Deep.Cut
import Derived.Test.YtflpihedhccdfaaGreatDoorRegIn
import Derived.Test.YtflpihedhccdfaaGreatDoorJoint2
set_option linter.unusedSimpArgs false
set_option linter.unusedVariables false
namespace Go.Proofs.YtflpihedhccdfaaGreatDoor
open Go.RowKit Go.Maps Go.Shelf

set_option maxRecDepth 100000 in
set_option maxHeartbeats 4000000 in
theorem open_any (s : ByteArray) (w : World) (hs : s.size ≤ 1000000) :
    Calls Tryz.prog 77 #[.string s] w fun e w' => ∃ X, e = .returned (.pointer (some ⟨X, 0, none⟩)) ∧ LexAt w' X s ∧ Below w.heap.size w w' := by
  have hB0 := below_new w (.cells #[.string s, .string ⟨#[]⟩, .int .i64 0] tX)
  have hX0 := heap_alloc_new w (.cells #[.string s, .string ⟨#[]⟩, .int .i64 0] tX)
  have hz0 : (w.alloc (.cells #[.string s, .string ⟨#[]⟩, .int .i64 0] tX)).heap.size = w.heap.size + 1 := by simp
  have HG := Lib.hid (gfirst_any s (w.alloc (.cells #[.string s, .string ⟨#[]⟩, .int .i64 0] tX)) hs)
  go_enter Tryz.func77, Tryz.ntmps77
  go_wp2_with fail
  refine HG.out.mono ?_
  rintro e w1 ⟨rfl, hb1⟩
  have hB1 : Below w.heap.size w w1 := hB0.trans (hb1.mono (by omega))
  have hX1 := (hb1.block w.heap.size (by omega)).trans hX0
  have c1 : w1.cell? ⟨w.heap.size, 1, none⟩ = some (.string ⟨#[]⟩) := by simp [World.cell?, hX1]
  have c2 : w1.cell? ⟨w.heap.size, 2, none⟩ = some (.int .i64 0) := by simp [World.cell?, hX1]
  have z0 : ∀ j, w1.frozen? ⟨w.heap.size, j, none⟩ = false := fun j => frozen_of_row w1 _ j _ _ hX1
  have HL : Hid (∀ W : World, W.heap[w.heap.size]? = some (.cells #[.string s, .string (gFirst s).1, .int .i64 ((gFirst s).2 : Int)] tX (0, 0)) → LexAt W w.heap.size s) := Lib.hid (fun W h => h)
  generalize (gFirst s).1 = g at *
  generalize (gFirst s).2 = n at *
  clear HG hb1 hX0
  go_wp2_with fail
  go_ret
  have h1 := heap_setCell_same w1 w.heap.size 1 _ _ (.string g) hX1
  have h2 := heap_setCell_same _ w.heap.size 2 _ _ (.int .i64 (n : Int)) h1
  exact ⟨_, rfl, HL.out _ (by rw [h2]; simp), (hB1.setCell (p := ⟨w.heap.size, 1, none⟩) (Nat.le_refl _) _).setCell (p := ⟨w.heap.size, 2, none⟩) (Nat.le_refl _) _⟩

theorem tok_cells {W : World} {b : Nat} {a1 a2 a3 : Value} {t : TypeId} (h : W.heap[b]? = some (.cells #[a1, a2, a3] t (0, 0))) :
    W.cell? ⟨b, 0, none⟩ = some a1 ∧ W.cell? ⟨b, 1, none⟩ = some a2 ∧ W.cell? ⟨b, 2, none⟩ = some a3 ∧ ∀ j, W.frozen? ⟨b, j, none⟩ = false :=
  ⟨by simp [World.cell?, h], by simp [World.cell?, h], by simp [World.cell?, h], fun j => frozen_of_row W _ j _ _ h⟩
def stepFns : List FuncId := [79, 80, 81, 82, 83, 84, 85]
theorem steps_enter : ∀ f ∈ stepFns, ∀ args w, (callFunc f args).run Tryz.prog w = .ok (.enter f args) w := by
  intro f hf
  simp only [stepFns, List.mem_cons, List.not_mem_nil, or_false] at hf
  rcases hf with rfl | rfl | rfl | rfl | rfl | rfl | rfl
  · exact enters_of Tryz.func79 (by kernel_rfl) rfl
  · exact enters_of Tryz.func80 (by kernel_rfl) rfl
  · exact enters_of Tryz.func81 (by kernel_rfl) rfl
  · exact enters_of Tryz.func82 (by kernel_rfl) rfl
  · exact enters_of Tryz.func83 (by kernel_rfl) rfl
  · exact enters_of Tryz.func84 (by kernel_rfl) rfl
  · exact enters_of Tryz.func85 (by kernel_rfl) rfl
theorem steps_call (X : Nat) (s : ByteArray) (h1 : 0 < s.size) (hs : s.size ≤ 1000000) : ∀ (i : Nat) (f : FuncId) (t : Tok), stepFns[i]? = some f → (stepsOf s)[i]? = some t → ∀ W : World, LexAt W X s → Tabs W →
    Calls Tryz.prog f #[.pointer (some ⟨X, 0, none⟩)] W fun e w' => e = .returned t.val ∧ Below W.heap.size W w' := by
  intro i f t hf ht W hL hT
  match i with
  | 0 => simp [stepFns] at hf; simp [stepsOf] at ht; subst hf ht; exact blank_any X s W hL hs
  | 1 => simp [stepFns] at hf; simp [stepsOf] at ht; subst hf ht; exact remark_any X s W hL hs
  | 2 => simp [stepFns] at hf; simp [stepsOf] at ht; subst hf ht; exact text_any X s W hL h1 hs
  | 3 => simp [stepFns] at hf; simp [stepsOf] at ht; subst hf ht; exact number_any X s W hL hs
  | 4 => simp [stepFns] at hf; simp [stepsOf] at ht; subst hf ht; exact name_any X s W hL h1 hs
  | 5 => simp [stepFns] at hf; simp [stepsOf] at ht; subst hf ht; exact sign_any X s W hL hs
  | 6 => simp [stepFns] at hf; simp [stepsOf] at ht; subst hf ht; exact other_any X s W hL hT h1 hs
  | i + 7 => simp [stepFns] at hf
theorem pick_skip : ∀ (l : List Tok) (i : Nat), (∀ x ∈ l.take i, x.kind = 0) → pickTok l = pickTok (l.drop i)
  | _, 0, _ => rfl
  | [], i + 1, _ => by simp
  | x :: l, i + 1, h => by
    rw [List.take_succ_cons] at h
    rw [pickTok, if_pos (h x List.mem_cons_self), List.drop_succ_cons]
    exact pick_skip l i (fun y hy => h y (List.mem_cons_of_mem _ hy))

set_option maxRecDepth 100000 in
set_option maxHeartbeats 8000000 in
theorem lfirst_any (X F : Nat) (s : ByteArray) (w : World) (h1 : 0 < s.size) (hs : s.size ≤ 1000000) (hL : LexAt w X s) (hT : Tabs w)
    (hF : ∀ (i : Nat) (f : FuncId), stepFns[i]? = some f → w.cell? ⟨F, i, none⟩ = some (.func (.func f) #[.pointer (some ⟨X, 0, none⟩)] #[])) :
    Calls Tryz.prog 78 #[.slice (some ⟨F, 0, none⟩) 7 7] w fun e w' => e = .returned (dFirst s).val ∧ Below w.heap.size w w' := by
  have hB0 := below_new w (.cells zTok tK)
  have hX0 := heap_alloc_new w (.cells zTok tK)
  have hz0 : (w.alloc (.cells zTok tK)).heap.size = w.heap.size + 1 := by simp
  have HSN := Lib.hid (steps_none s)
  have HSF := Lib.hid (steps_first h1)
  have HSC := Lib.hid (steps_call X s h1 hs)
  have HSE := Lib.hid steps_enter
  have HF := Lib.hid hF
  have HL := Lib.hid hL
  have HT := Lib.hid hT
  have hlen : (stepsOf s).length = 7 := rfl
  have hfl : stepFns.length = 7 := rfl
  have HLN := Lib.hid hlen
  have HFL := Lib.hid hfl
  have hF0 := cell_lt (hF 0 _ rfl)
  clear hF hL hT hlen hfl
  generalize stepsOf s = ts at *
  generalize dFirst s = d at *
  go_enter Tryz.func78, Tryz.ntmps78
  go_wp2_with fail
  generalize w.alloc (.cells #[.int .i64 0, .string ⟨#[]⟩, .string ⟨#[]⟩] 55) = w0 at *
  go_loopw [8] (fun i wr => ∃ (k : Nat), i = .int .i64 k ∧ k ≤ 7 ∧ Hid (∀ x ∈ ts.take k, x.kind = 0) ∧ Hid (Below w.heap.size w wr) ∧ wr.heap[w.heap.size]? = some (.cells zTok tK (0, 0))) (fun i _ => 7 - (intOf i).toNat)
  case atStart => exact ⟨0, rfl, Nat.zero_le _, Lib.hid (fun x hx => by simp at hx), Lib.hid hB0, hX0⟩
  case round =>
    obtain ⟨k, rfl, hk, HP, HB, hXr⟩ := hrel
    by_cases hlt : k < 7
    · have gt := List.getElem?_eq_getElem (l := ts) (i := k) (by rw [HLN.out]; exact hlt)
      have gf := List.getElem?_eq_getElem (l := stepFns) (i := k) (by rw [HFL.out]; exact hlt)
      generalize ts[k]'(by rw [HLN.out]; exact hlt) = t at *
      generalize stepFns[k]'(by rw [HFL.out]; exact hlt) = f at *
      have cf := (HB.out.cell (p := ⟨F, k, none⟩) hF0).trans (HF.out k f gf)
      have HLr := HL.out.below HB.out
      have HTr := HT.out.below HB.out
      have HC := HSC.out k f t gf gt wr HLr HTr
      unfold Tok.val at HC
      have HC := Lib.hid HC
      have hfe := HSE.out f (List.mem_of_getElem? gf)
      have hrs := HB.out.size
      have HSK : Hid (pickTok ts = if t.kind = 0 then pickTok (ts.drop (k + 1)) else t) := Lib.hid (by
        rw [pick_skip ts k HP.out]
        have hkl : k < ts.length := by rw [HLN.out]; exact hlt
        rw [List.drop_eq_getElem_cons hkl]
        have : ts[k] = t := by
          have := List.getElem?_eq_getElem hkl
          rw [gt] at this
          exact (Option.some.inj this).symm
        rw [this]
        rfl)
      have HPN : Hid (t.kind = 0 → ∀ x ∈ ts.take (k + 1), x.kind = 0) := Lib.hid (fun ht0 x hx => by
        rw [take_one gt] at hx
        rcases List.mem_append.1 hx with h | h
        · exact HP.out x h
        · rw [List.mem_singleton.1 h]; exact ht0)
      have HTN := Lib.hid (HSN.out t (List.mem_of_getElem? gt))
      clear gt gf HLr HTr
      go_wp2_with fail
      refine HC.out.mono ?_
      rintro e w2 ⟨rfl, hb2⟩
      have hxl := (Array.getElem?_eq_some_iff.1 hXr).1
      have hX2 := (hb2.block w.heap.size hxl).trans hXr
      have HB2 := Lib.hid (HB.out.trans (hb2.mono hrs))
      have hz2 := hb2.size
      have hxl2 : w.heap.size < w2.heap.size := by omega
      clear HC hb2 HP HB hXr cf HLN HFL
      by_cases hk0 : t.kind = 0
      · have HP2 := Lib.hid (HPN.out hk0)
        obtain rfl := HTN.out hk0
        clear HPN HTN HSK hk0
        have hX3 : (w2.alloc (.cells zTok tK)).heap[w.heap.size]? = some (.cells zTok tK (0, 0)) := (Lib.alloc_old w2 _ w.heap.size (by omega)).trans hX2
        have HB3 := Lib.hid (HB2.out.alloc (by omega) (.cells zTok tK))
        unfold noTok
        go_wp2_with fail
        go_roundw
        case rel => exact ⟨k + 1, by go_num, by omega, HP2, HB3, hX3⟩
        case measure => simp [intOf]; omega
      · have hk1 : (t.kind == 0) = false := by simpa using hk0
        have hk2 : (t.kind != 0) = true := by rw [bne, hk1]; rfl
        have HR : Hid (d = t) := Lib.hid (by rw [← HSF.out, HSK.out, if_neg hk0])
        have hX3 : (w2.alloc (.cells #[.int .i64 t.kind, .string t.text, .string t.glyph] tK)).heap[w.heap.size]? = some (.cells zTok tK (0, 0)) := (Lib.alloc_old w2 _ w.heap.size (by omega)).trans hX2
        have hB3 : Below w.heap.size w (w2.alloc (.cells #[.int .i64 t.kind, .string t.text, .string t.glyph] tK)) := HB2.out.alloc (by omega) _
        obtain ⟨x0, x1, x2, z0⟩ := tok_cells hX2
        clear HSK HPN HTN hk0
        go_wp2_with fail
        have hR9 := set3 (b1 := .int .i64 t.kind) (b2 := .string t.text) (b3 := .string t.glyph) hX2
        have hB9 := ((HB2.out.setCell (p := ⟨w.heap.size, 0, none⟩) (Nat.le_refl _) (.int .i64 t.kind)).setCell (p := ⟨w.heap.size, 1, none⟩) (Nat.le_refl _) (.string t.text)).setCell (p := ⟨w.heap.size, 2, none⟩) (Nat.le_refl _) (.string t.glyph)
        generalize ((w2.setCell ⟨w.heap.size, 0, none⟩ (.int .i64 t.kind)).setCell ⟨w.heap.size, 1, none⟩ (.string t.text)).setCell ⟨w.heap.size, 2, none⟩ (.string t.glyph) = W8 at *
        have hl8 := (Array.getElem?_eq_some_iff.1 hR9).1
        have hR10 := (Lib.alloc_old W8 (.cells #[.int .i64 t.kind, .string t.text, .string t.glyph] tK) w.heap.size hl8).trans hR9
        have hB10 := hB9.alloc (by omega) (.cells #[.int .i64 t.kind, .string t.text, .string t.glyph] tK)
        generalize W8.alloc (.cells #[.int .i64 t.kind, .string t.text, .string t.glyph] 55) = W9 at *
        obtain ⟨y0, y1, y2, _⟩ := tok_cells hR10
        exact bodyPost_ret (v := .agg #[.int .i64 t.kind, .string t.text, .string t.glyph]) (by simp [results, Tryz.results78, go_sem, y0, y1, y2]) rfl ⟨by rw [HR.out]; rfl, hB10⟩
    · obtain rfl : k = 7 := by omega
      have HR : Hid (d = noTok) := Lib.hid (by
        have h7 := HP.out
        rw [List.take_of_length_le (by rw [HLN.out]; exact Nat.le_refl _)] at h7
        rw [← HSF.out, pick_skip ts 7 (fun x hx => h7 x (List.mem_of_mem_take hx)), List.drop_of_length_le (by rw [HLN.out]; exact Nat.le_refl _)]
        rfl)
      obtain ⟨x0, x1, x2, z0⟩ := tok_cells hXr
      go_wp2_with fail
      have hR9 := set3 (b1 := .int .i64 0) (b2 := .string (ByteArray.mk #[])) (b3 := .string (ByteArray.mk #[])) hXr
      have hB9 := ((HB.out.setCell (p := ⟨w.heap.size, 0, none⟩) (Nat.le_refl _) (.int .i64 0)).setCell (p := ⟨w.heap.size, 1, none⟩) (Nat.le_refl _) (.string (ByteArray.mk #[]))).setCell (p := ⟨w.heap.size, 2, none⟩) (Nat.le_refl _) (.string (ByteArray.mk #[]))
      generalize (((wr.setCell ⟨w.heap.size, 0, none⟩ (.int .i64 0)).setCell ⟨w.heap.size, 1, none⟩ (.string (ByteArray.mk #[]))).setCell ⟨w.heap.size, 2, none⟩ (.string (ByteArray.mk #[]))) = W9 at *
      have y0 : W9.cell? ⟨w.heap.size, 0, none⟩ = some (.int .i64 0) := by simp [World.cell?, hR9]
      have y1 : W9.cell? ⟨w.heap.size, 1, none⟩ = some (.string (ByteArray.mk #[])) := by simp [World.cell?, hR9]
      have y2 : W9.cell? ⟨w.heap.size, 2, none⟩ = some (.string (ByteArray.mk #[])) := by simp [World.cell?, hR9]
      exact bodyPost_ret (v := .agg #[.int .i64 0, .string (ByteArray.mk #[]), .string (ByteArray.mk #[])]) (by simp [results, Tryz.results78, go_sem, y0, y1, y2]) rfl ⟨by rw [HR.out]; rfl, hB9⟩

end Go.Proofs.YtflpihedhccdfaaGreatDoor
/-
  The first token of a text: by the program.
-/
namespace Go.Proofs.YtflpihedhccdfaaGreatDoor
open Go.RowKit Go.Maps

set_option maxRecDepth 100000 in
set_option maxHeartbeats 8000000 in
/-- The first token. -/
theorem First_some (s : ByteArray) (w : World) (h1 : 0 < s.size) (hs : s.size ≤ 1000000) (hT : Tabs w) :
    Calls Tryz.prog 70 #[.string s] w fun e w' => e = .returned (.tuple #[(dFirst s).val, .bool true]) ∧ Below w.heap.size w w' := by
  have hB0 := below_new w (.cells zTok tK)
  have hX0 := heap_alloc_new w (.cells zTok tK)
  have hz0 : (w.alloc (.cells zTok tK)).heap.size = w.heap.size + 1 := by simp
  have hem := empty_not (u := s) h1
  have HO := Lib.hid (open_any s (w.alloc (.cells zTok tK)) hs)
  have HF := Lib.hid (fun X F W => lfirst_any X F s W h1 hs)
  have hmf : ∀ (fn : Fn) (first cap : Array Value) (w : World), (Instr.makeFunc fn first cap).run Tryz.prog w = .ok (.func fn first cap) w := fun _ _ _ _ => rfl
  have HT0 := Lib.hid (hT.below hB0)
  clear hT
  unfold Tok.val at HF ⊢
  generalize dFirst s = d at *
  go_enter Tryz.func70, Tryz.ntmps70
  go_wp2_with fail
  refine HO.out.mono ?_
  rintro e w1 ⟨X, rfl, hL1, hb1⟩
  have hT1 := HT0.out.below hb1
  have hB1 : Below w.heap.size w w1 := hB0.trans (hb1.mono (by omega))
  have hz1 := hb1.size
  have hX1 := (hb1.block w.heap.size (by omega)).trans hX0
  have HL1 := Lib.hid hL1
  have HT1 := Lib.hid hT1
  clear HO HT0 hL1 hT1 hb1
  go_wp2_with fail
  have hFW : ∀ (o : Obj) (i : Nat) (f : FuncId), o = .cells #[.func (.func 79) #[.pointer (some ⟨X, 0, none⟩)] #[], .func (.func 80) #[.pointer (some ⟨X, 0, none⟩)] #[], .func (.func 81) #[.pointer (some ⟨X, 0, none⟩)] #[], .func (.func 82) #[.pointer (some ⟨X, 0, none⟩)] #[], .func (.func 83) #[.pointer (some ⟨X, 0, none⟩)] #[], .func (.func 84) #[.pointer (some ⟨X, 0, none⟩)] #[], .func (.func 85) #[.pointer (some ⟨X, 0, none⟩)] #[]] 144 (0, 0) →
      stepFns[i]? = some f → (w1.alloc o).cell? ⟨w1.heap.size, i, none⟩ = some (.func (.func f) #[.pointer (some ⟨X, 0, none⟩)] #[]) := fun o i f ho hi => by
    subst ho
    match i, hi with
    | 0, hi => simp [stepFns] at hi; subst hi; simp
    | 1, hi => simp [stepFns] at hi; subst hi; simp
    | 2, hi => simp [stepFns] at hi; subst hi; simp
    | 3, hi => simp [stepFns] at hi; subst hi; simp
    | 4, hi => simp [stepFns] at hi; subst hi; simp
    | 5, hi => simp [stepFns] at hi; subst hi; simp
    | 6, hi => simp [stepFns] at hi; subst hi; simp
    | i + 7, hi => simp [stepFns] at hi
  have hbo := fun o => below_new w1 o
  refine (HF.out X w1.heap.size _ (HL1.out.below (hbo _)) (HT1.out.below (hbo _)) (fun i f hi => hFW _ i f rfl hi)).mono ?_
  rintro e w2 ⟨rfl, hb2⟩
  have hB2 : Below w.heap.size w w2 := hB1.trans (((hbo _).mono hB1.size).trans (hb2.mono (by have := hB1.size; simp; omega)))
  have hX2 := (hb2.block w.heap.size (by simp; omega)).trans ((Lib.alloc_old w1 _ w.heap.size (by omega)).trans hX1)
  obtain ⟨x0, x1, x2, z0⟩ := tok_cells hX2
  clear HF HL1 HT1 hFW hbo hb2 hX1 hX0
  go_wp2_with fail
  have hR9 := set3 (b1 := .int .i64 d.kind) (b2 := .string d.text) (b3 := .string d.glyph) hX2
  have hB9 := ((hB2.setCell (p := ⟨w.heap.size, 0, none⟩) (Nat.le_refl _) (.int .i64 d.kind)).setCell (p := ⟨w.heap.size, 1, none⟩) (Nat.le_refl _) (.string d.text)).setCell (p := ⟨w.heap.size, 2, none⟩) (Nat.le_refl _) (.string d.glyph)
  generalize ((w2.setCell ⟨w.heap.size, 0, none⟩ (.int .i64 d.kind)).setCell ⟨w.heap.size, 1, none⟩ (.string d.text)).setCell ⟨w.heap.size, 2, none⟩ (.string d.glyph) = W9 at *
  obtain ⟨y0, y1, y2, _⟩ := tok_cells hR9
  exact bodyPost_ret (v := .tuple #[.agg #[.int .i64 d.kind, .string d.text, .string d.glyph], .bool true]) (by simp [results, Tryz.results70, go_sem, y0, y1, y2]) rfl ⟨rfl, hB9⟩

set_option maxRecDepth 100000 in
set_option maxHeartbeats 8000000 in
theorem First_none (w : World) :
    Calls Tryz.prog 70 #[.string ByteArray.empty] w fun e w' => e = .returned (.tuple #[noTok.val, .bool false]) ∧ Below w.heap.size w w' := by
  have hB0 := below_new w (.cells zTok tK)
  go_enter Tryz.func70, Tryz.ntmps70
  go_wp2_with fail
  exact bodyPost_ret (v := .tuple #[.agg #[.int .i64 0, .string ⟨#[]⟩, .string ⟨#[]⟩], .bool false]) (by simp [results, Tryz.results70, go_sem]) rfl ⟨rfl, hB0⟩
end Go.Proofs.YtflpihedhccdfaaGreatDoor
/-
  A line's tokens one by one: the iterator.
-/
namespace Go.Proofs.YtflpihedhccdfaaGreatDoor
open Go.RowKit Go.Maps

attribute [local go_sem] Oper.semAt_some

theorem tokens_any (s : ByteArray) (w : World) :
    Calls Tryz.prog 56 #[.string s] w fun e w' => e = .returned (.func (.func 69) #[] #[.pointer (some ⟨w.heap.size, 0, none⟩)]) ∧ w' = w.alloc (.cells #[.string s] 9) := by
  go_enter Tryz.func56, Tryz.ntmps56
  go_wp2_with fail
  go_ret
  exact ⟨rfl, rfl⟩

/-- What is left in the box. -/
def restIn (sb : Nat) (W : World) : Nat := match W.cell? ⟨sb, 0, none⟩ with
  | some (.string r) => r.size
  | _ => 0
theorem restIn_of {sb : Nat} {W : World} {r : ByteArray} (h : W.heap[sb]? = some (.cells #[.string r] 9 (0, 0))) : restIn sb W = r.size := by
  have : W.cell? ⟨sb, 0, none⟩ = some (.string r) := by simp [World.cell?, h]
  unfold restIn
  rw [this]

set_option maxRecDepth 100000 in
set_option maxHeartbeats 8000000 in
theorem tokens1_any (n : Nat) (L sb : Nat) (s : ByteArray) (J : List Tok → World → Prop) (W : World) (hs : s.size ≤ 1000000) (hb : W.heap[sb]? = some (.cells #[.string s] 9 (0, 0))) (h0 : J [] W)
    (hst : ∀ pre W1 W2, J pre W1 → Below W1.heap.size W1 W2 → J pre W2) (hsc : ∀ pre W1 v, J pre W1 → J pre (W1.setCell ⟨sb, 0, none⟩ v)) (hT : ∀ pre W1, J pre W1 → Tabs W1)
    (hY : ∀ (pre : List Tok) (x : Tok) (W0 W1 : World), J pre W0 → pre.length < (dLine s).length → W.heap.size ≤ W0.heap.size → Below W0.heap.size W0 W1 → YieldAt Fence.wide n Tryz.prog L #[.agg #[.int .i64 x.kind, .string x.text, .string x.glyph]] W1 fun e W' =>
      e = .returned (.bool true) ∧ J (pre ++ [x]) W' ∧ W'.heap[sb]? = W1.heap[sb]? ∧ W1.heap.size ≤ W'.heap.size ∧ ∀ k, W0.heap.size ≤ k → k < W1.heap.size → W'.heap[k]? = W1.heap[k]?) :
    Calls Tryz.prog 69 #[.func (.yield L) #[] #[], .pointer (some ⟨sb, 0, none⟩)] W fun e W' => (∃ v, e = .returned v) ∧ J (dLine s) W' := by
  have HY := Lib.hid hY
  have HST := Lib.hid hst
  have HSC := Lib.hid hsc
  have HT := Lib.hid hT
  have H0 := Lib.hid h0
  have hsb : sb < W.heap.size := (Array.getElem?_eq_some_iff.1 hb).1
  have HB := Lib.hid hb
  clear hY hst hsc hT h0 hb
  generalize hn : W.heap.size = n0 at *
  go_enter Tryz.func69, Tryz.ntmps69
  go_wp2_with fail
  go_step3
  go_wp2_with fail
  go_step3
  go_wp2_with fail
  go_loopw [] (fun wr => ∃ (r : ByteArray) (pre : List Tok), Hid (wr.heap[sb]? = some (.cells #[.string r] 9 (0, 0))) ∧ Hid (J pre wr) ∧ Hid (pre ++ dLine r = dLine s) ∧ r.size ≤ 1000000 ∧ n0 ≤ wr.heap.size) (fun wr => restIn sb wr)
  case atStart => exact ⟨s, [], HB, H0, Lib.hid rfl, hs, by omega⟩
  case round =>
    obtain ⟨r, pre, HR, HJ, HP, hr, hz⟩ := hrel
    have hT := HT.out _ _ HJ.out
    have HRw := HR
    have cr : wr.cell? ⟨sb, 0, none⟩ = some (.string r) := by have := HR.out; simp [World.cell?, this]
    by_cases h0 : r.size = 0
    · obtain rfl : r = ByteArray.empty := ByteArray.size_eq_zero_iff.1 h0
      have HF := First_none wr
      unfold Tok.val noTok at HF
      have HF := Lib.hid HF
      have HE : Hid (pre = dLine s) := Lib.hid (by
        rw [← HP.out]
        have : dLine ByteArray.empty = [] := dLine_nil
        rw [this, List.append_nil])
      clear hT h0
      go_wp2_with fail
      refine HF.out.mono ?_
      rintro e w2 ⟨rfl, hb2⟩
      have HJ2 := Lib.hid (HST.out _ _ _ HJ.out (hb2.trans ((Below.refl wr.heap.size w2).alloc hb2.size (.cells #[.int .i64 0, .string ⟨#[]⟩, .string ⟨#[]⟩] 55))))
      clear HF hb2 HR HJ HP cr
      go_wp2_with fail
      try rw [Exit.noGoto_normal]
      go_end0
      rw [← HE.out]
      exact ⟨⟨_, rfl⟩, HJ2.out⟩
    · have h1 : 0 < r.size := by omega
      have HF := First_some r wr h1 hr hT
      unfold Tok.val at HF
      have HF := Lib.hid HF
      obtain ⟨m, m1, m2, hm, _⟩ := first_begins h1
      have hfs : (dFirst r).text.size ≤ r.size := by rw [hm, ext_size]; omega
      have HP2 : Hid ((pre ++ [dFirst r]) ++ dLine (restOf r) = dLine s) := Lib.hid (by rw [← HP.out, dLine_cons h1]; simp)
      have HRS := Lib.hid (rest_less h1)
      have HRD : Hid (restOf r = r.extract (dFirst r).text.size r.size) := Lib.hid rfl
      generalize dFirst r = x at *
      generalize restOf r = r2 at *
      have HRE : Hid (r.extract x.text.size r.size = r2) := Lib.hid HRD.out.symm
      clear hm HRD hT
      go_wp2_with fail
      refine HF.out.mono ?_
      rintro e w2 ⟨rfl, hb2⟩
      go_upto_region 1 with fail
      have hsz2 := hb2.size
      have hB3 : Below wr.heap.size wr (w2.alloc (.cells #[.int .i64 x.kind, .string x.text, .string x.glyph] 55)) := hb2.alloc hsz2 _
      have hX3 := heap_alloc_new w2 (.cells #[.int .i64 x.kind, .string x.text, .string x.glyph] 55)
      have hz3 : (w2.alloc (.cells #[.int .i64 x.kind, .string x.text, .string x.glyph] 55)).heap.size = w2.heap.size + 1 := by simp
      have HJ3 := HJ.out
      have HR3 := (hB3.block sb (by omega)).trans HR.out
      generalize w2.alloc (.cells #[.int .i64 x.kind, .string x.text, .string x.glyph] 55) = w3 at *
      obtain ⟨fn, tmps, assign, body, hy, hRd⟩ := HY.out pre x wr w3 HJ3 (by rw [← HP2.out]; simp) hz hB3
      have HRo := Lib.hid hRd
      obtain ⟨x0, x1, x2, _⟩ := tok_cells hX3
      have HX3 := Lib.hid hX3
      have HR3h := Lib.hid HR3
      clear hRd hX3 HR3 hB3 HJ3 HR HJ HF cr
      refine (wpIn_wide (n := n + 1)).1 ?_
      gi_wp2_with fail
      refine HRo.out.mono ?_
      rintro e w4 ⟨rfl, hJ4, hs4, hz34, hA4⟩
      have hR4 := hs4.trans HR3h.out
      have hX4 := (hA4 w2.heap.size (by omega) (by omega)).trans HX3.out
      obtain ⟨y0, y1, y2, _⟩ := tok_cells hX4
      have cs4 : w4.cell? ⟨sb, 0, none⟩ = some (.string r) := by simp [World.cell?, hR4]
      have zs4 : w4.frozen? ⟨sb, 0, none⟩ = false := frozen_of_row w4 _ 0 _ _ hR4
      have HJ5 := Lib.hid (HSC.out _ w4 (.string r2) hJ4)
      have hz4 : n0 ≤ w4.heap.size := by omega
      have HR5 : Hid ((w4.setCell ⟨sb, 0, none⟩ (.string r2)).heap[sb]? = some (.cells #[.string r2] 9 (0, 0))) := Lib.hid (by rw [heap_setCell_same w4 sb 0 _ _ _ hR4]; simp)
      have HM : Hid (restIn sb (w4.setCell ⟨sb, 0, none⟩ (.string r2)) < restIn sb wr) := Lib.hid (by rw [restIn_of HR5.out, restIn_of HRw.out]; exact HRS.out)
      have hr2 : r2.size ≤ 1000000 := by have := HRS.out; omega
      clear hR4 hX4 hs4 hA4 hJ4 x0 x1 x2 HX3 HR3h
      gi_wp2_with fail
      go_wp2_with fail
      try rw [HRE.out]
      go_roundw
      case rel => exact ⟨r2, _, HR5, HJ5, HP2, hr2, by simpa using hz4⟩
      case measure => exact HM.out
end Go.Proofs.YtflpihedhccdfaaGreatDoor
