/-
  The first token of a text: by the program.
-/
import Derived.Test.YteojnejomgomjaaDoorProg
import Derived.Test.YteojnejomgomjaaDoorReg
import Derived.WalkKit
import Derived.WalkSpells
import Derived.WalkLawsBesides
import Derived.Lib.Hide
import Derived.Lib.MinMax
import Derived.Deep.QuietTactic
import Derived.BigQuiet
import Derived.OwnWalk
import Derived.Deep.AppendLies
import Derived.KernelRfl
import Derived.Shelf.Abstract
import Derived.Test.YteojnejomgomjaaDoorLxFs
set_option linter.unusedSimpArgs false
set_option linter.unusedVariables false
namespace Go.Proofs.YteojnejomgomjaaDoor
open Go.RowKit Go.Maps Go.Shelf

set_option maxRecDepth 100000 in
set_option maxHeartbeats 4000000 in
theorem open_any (s : ByteArray) (w : World) (hs : s.size ≤ 1000000) :
    Calls Tryd.prog 22 #[.string s] w fun e w' => ∃ X, e = .returned (.pointer (some ⟨X, 0, none⟩)) ∧ LexAt w' X s ∧ Below w.heap.size w w' := by
  have hB0 := below_new w (.cells #[.string s, .string ⟨#[]⟩, .int .i64 0] tX)
  have hX0 := heap_alloc_new w (.cells #[.string s, .string ⟨#[]⟩, .int .i64 0] tX)
  have hz0 : (w.alloc (.cells #[.string s, .string ⟨#[]⟩, .int .i64 0] tX)).heap.size = w.heap.size + 1 := by simp
  have HG := Lib.hid (gfirst_any s (w.alloc (.cells #[.string s, .string ⟨#[]⟩, .int .i64 0] tX)) hs)
  go_enter Tryd.func22, Tryd.ntmps22
  go_wp2_with fail
  refine HG.out.mono ?_
  rintro e w1 ⟨rfl, hb1⟩
  have hB1 : Below w.heap.size w w1 := hB0.trans (hb1.mono (by omega))
  have hX1 := (hb1.block w.heap.size (by omega)).trans hX0
  have c1 : w1.cell? ⟨w.heap.size, 1, none⟩ = some (.string ⟨#[]⟩) := by simp [World.cell?, hX1]
  have c2 : w1.cell? ⟨w.heap.size, 2, none⟩ = some (.int .i64 0) := by simp [World.cell?, hX1]
  have z0 : ∀ j, w1.frozen? ⟨w.heap.size, j, none⟩ = false := fun j => frozen_of_row w1 _ j _ _ hX1
  have HL : Hid (∀ W : World, W.heap[w.heap.size]? = some (.cells #[.string s, .string (gFirst s).1, .int .i64 ((gFirst s).2 : Int)] tX (0, 0)) → LexAt W w.heap.size s) := Lib.hid (fun W h => h)
  generalize (gFirst s).1 = g at *
  generalize (gFirst s).2 = n at *
  clear HG hb1 hX0
  go_wp2_with fail
  go_ret
  have h1 := heap_setCell_same w1 w.heap.size 1 _ _ (.string g) hX1
  have h2 := heap_setCell_same _ w.heap.size 2 _ _ (.int .i64 (n : Int)) h1
  exact ⟨_, rfl, HL.out _ (by rw [h2]; simp), (hB1.setCell (p := ⟨w.heap.size, 1, none⟩) (Nat.le_refl _) _).setCell (p := ⟨w.heap.size, 2, none⟩) (Nat.le_refl _) _⟩

theorem tok_cells {W : World} {b : Nat} {a1 a2 a3 : Value} {t : TypeId} (h : W.heap[b]? = some (.cells #[a1, a2, a3] t (0, 0))) :
    W.cell? ⟨b, 0, none⟩ = some a1 ∧ W.cell? ⟨b, 1, none⟩ = some a2 ∧ W.cell? ⟨b, 2, none⟩ = some a3 ∧ ∀ j, W.frozen? ⟨b, j, none⟩ = false :=
  ⟨by simp [World.cell?, h], by simp [World.cell?, h], by simp [World.cell?, h], fun j => frozen_of_row W _ j _ _ h⟩
def stepFns : List FuncId := [24, 25, 26, 27, 28, 29, 30]
theorem steps_enter : ∀ f ∈ stepFns, ∀ args w, (callFunc f args).run Tryd.prog w = .ok (.enter f args) w := by
  intro f hf
  simp only [stepFns, List.mem_cons, List.not_mem_nil, or_false] at hf
  rcases hf with rfl | rfl | rfl | rfl | rfl | rfl | rfl
  · exact enters_of Tryd.func24 (by kernel_rfl) rfl
  · exact enters_of Tryd.func25 (by kernel_rfl) rfl
  · exact enters_of Tryd.func26 (by kernel_rfl) rfl
  · exact enters_of Tryd.func27 (by kernel_rfl) rfl
  · exact enters_of Tryd.func28 (by kernel_rfl) rfl
  · exact enters_of Tryd.func29 (by kernel_rfl) rfl
  · exact enters_of Tryd.func30 (by kernel_rfl) rfl
theorem steps_call (X : Nat) (s : ByteArray) (h1 : 0 < s.size) (hs : s.size ≤ 1000000) : ∀ (i : Nat) (f : FuncId) (t : Tok), stepFns[i]? = some f → (stepsOf s)[i]? = some t → ∀ W : World, LexAt W X s → Tabs W →
    Calls Tryd.prog f #[.pointer (some ⟨X, 0, none⟩)] W fun e w' => e = .returned t.val ∧ Below W.heap.size W w' := by
  intro i f t hf ht W hL hT
  match i with
  | 0 => simp [stepFns] at hf; simp [stepsOf] at ht; subst hf ht; exact blank_any X s W hL hs
  | 1 => simp [stepFns] at hf; simp [stepsOf] at ht; subst hf ht; exact remark_any X s W hL hs
  | 2 => simp [stepFns] at hf; simp [stepsOf] at ht; subst hf ht; exact text_any X s W hL h1 hs
  | 3 => simp [stepFns] at hf; simp [stepsOf] at ht; subst hf ht; exact number_any X s W hL hs
  | 4 => simp [stepFns] at hf; simp [stepsOf] at ht; subst hf ht; exact name_any X s W hL h1 hs
  | 5 => simp [stepFns] at hf; simp [stepsOf] at ht; subst hf ht; exact sign_any X s W hL hs
  | 6 => simp [stepFns] at hf; simp [stepsOf] at ht; subst hf ht; exact other_any X s W hL hT h1 hs
  | i + 7 => simp [stepFns] at hf
theorem pick_skip : ∀ (l : List Tok) (i : Nat), (∀ x ∈ l.take i, x.kind = 0) → pickTok l = pickTok (l.drop i)
  | _, 0, _ => rfl
  | [], i + 1, _ => by simp
  | x :: l, i + 1, h => by
    rw [List.take_succ_cons] at h
    rw [pickTok, if_pos (h x List.mem_cons_self), List.drop_succ_cons]
    exact pick_skip l i (fun y hy => h y (List.mem_cons_of_mem _ hy))

set_option maxRecDepth 100000 in
set_option maxHeartbeats 8000000 in
theorem lfirst_any (X F : Nat) (s : ByteArray) (w : World) (h1 : 0 < s.size) (hs : s.size ≤ 1000000) (hL : LexAt w X s) (hT : Tabs w)
    (hF : ∀ (i : Nat) (f : FuncId), stepFns[i]? = some f → w.cell? ⟨F, i, none⟩ = some (.func (.func f) #[.pointer (some ⟨X, 0, none⟩)] #[])) :
    Calls Tryd.prog 23 #[.slice (some ⟨F, 0, none⟩) 7 7] w fun e w' => e = .returned (dFirst s).val ∧ Below w.heap.size w w' := by
  have hB0 := below_new w (.cells zTok tK)
  have hX0 := heap_alloc_new w (.cells zTok tK)
  have hz0 : (w.alloc (.cells zTok tK)).heap.size = w.heap.size + 1 := by simp
  have HSN := Lib.hid (steps_none s)
  have HSF := Lib.hid (steps_first h1)
  have HSC := Lib.hid (steps_call X s h1 hs)
  have HSE := Lib.hid steps_enter
  have HF := Lib.hid hF
  have HL := Lib.hid hL
  have HT := Lib.hid hT
  have hlen : (stepsOf s).length = 7 := rfl
  have hfl : stepFns.length = 7 := rfl
  have HLN := Lib.hid hlen
  have HFL := Lib.hid hfl
  have hF0 := cell_lt (hF 0 _ rfl)
  clear hF hL hT hlen hfl
  generalize stepsOf s = ts at *
  generalize dFirst s = d at *
  go_enter Tryd.func23, Tryd.ntmps23
  go_wp2_with fail
  generalize w.alloc (.cells #[.int .i64 0, .string ⟨#[]⟩, .string ⟨#[]⟩] 27) = w0 at *
  go_loopw [8] (fun i wr => ∃ (k : Nat), i = .int .i64 k ∧ k ≤ 7 ∧ Hid (∀ x ∈ ts.take k, x.kind = 0) ∧ Hid (Below w.heap.size w wr) ∧ wr.heap[w.heap.size]? = some (.cells zTok tK (0, 0))) (fun i _ => 7 - (intOf i).toNat)
  case atStart => exact ⟨0, rfl, Nat.zero_le _, Lib.hid (fun x hx => by simp at hx), Lib.hid hB0, hX0⟩
  case round =>
    obtain ⟨k, rfl, hk, HP, HB, hXr⟩ := hrel
    by_cases hlt : k < 7
    · have gt := List.getElem?_eq_getElem (l := ts) (i := k) (by rw [HLN.out]; exact hlt)
      have gf := List.getElem?_eq_getElem (l := stepFns) (i := k) (by rw [HFL.out]; exact hlt)
      generalize ts[k]'(by rw [HLN.out]; exact hlt) = t at *
      generalize stepFns[k]'(by rw [HFL.out]; exact hlt) = f at *
      have cf := (HB.out.cell (p := ⟨F, k, none⟩) hF0).trans (HF.out k f gf)
      have HLr := HL.out.below HB.out
      have HTr := HT.out.below HB.out
      have HC := HSC.out k f t gf gt wr HLr HTr
      unfold Tok.val at HC
      have HC := Lib.hid HC
      have hfe := HSE.out f (List.mem_of_getElem? gf)
      have hrs := HB.out.size
      have HSK : Hid (pickTok ts = if t.kind = 0 then pickTok (ts.drop (k + 1)) else t) := Lib.hid (by
        rw [pick_skip ts k HP.out]
        have hkl : k < ts.length := by rw [HLN.out]; exact hlt
        rw [List.drop_eq_getElem_cons hkl]
        have : ts[k] = t := by
          have := List.getElem?_eq_getElem hkl
          rw [gt] at this
          exact (Option.some.inj this).symm
        rw [this]
        rfl)
      have HPN : Hid (t.kind = 0 → ∀ x ∈ ts.take (k + 1), x.kind = 0) := Lib.hid (fun ht0 x hx => by
        rw [take_one gt] at hx
        rcases List.mem_append.1 hx with h | h
        · exact HP.out x h
        · rw [List.mem_singleton.1 h]; exact ht0)
      have HTN := Lib.hid (HSN.out t (List.mem_of_getElem? gt))
      clear gt gf HLr HTr
      go_wp2_with fail
      refine HC.out.mono ?_
      rintro e w2 ⟨rfl, hb2⟩
      have hxl := (Array.getElem?_eq_some_iff.1 hXr).1
      have hX2 := (hb2.block w.heap.size hxl).trans hXr
      have HB2 := Lib.hid (HB.out.trans (hb2.mono hrs))
      have hz2 := hb2.size
      have hxl2 : w.heap.size < w2.heap.size := by omega
      clear HC hb2 HP HB hXr cf HLN HFL
      by_cases hk0 : t.kind = 0
      · have HP2 := Lib.hid (HPN.out hk0)
        obtain rfl := HTN.out hk0
        clear HPN HTN HSK hk0
        have hX3 : (w2.alloc (.cells zTok tK)).heap[w.heap.size]? = some (.cells zTok tK (0, 0)) := (Lib.alloc_old w2 _ w.heap.size (by omega)).trans hX2
        have HB3 := Lib.hid (HB2.out.alloc (by omega) (.cells zTok tK))
        unfold noTok
        go_wp2_with fail
        go_roundw
        case rel => exact ⟨k + 1, by go_num, by omega, HP2, HB3, hX3⟩
        case measure => simp [intOf]; omega
      · have hk1 : (t.kind == 0) = false := by simpa using hk0
        have hk2 : (t.kind != 0) = true := by rw [bne, hk1]; rfl
        have HR : Hid (d = t) := Lib.hid (by rw [← HSF.out, HSK.out, if_neg hk0])
        have hX3 : (w2.alloc (.cells #[.int .i64 t.kind, .string t.text, .string t.glyph] tK)).heap[w.heap.size]? = some (.cells zTok tK (0, 0)) := (Lib.alloc_old w2 _ w.heap.size (by omega)).trans hX2
        have hB3 : Below w.heap.size w (w2.alloc (.cells #[.int .i64 t.kind, .string t.text, .string t.glyph] tK)) := HB2.out.alloc (by omega) _
        obtain ⟨x0, x1, x2, z0⟩ := tok_cells hX2
        clear HSK HPN HTN hk0
        go_wp2_with fail
        have hR9 := set3 (b1 := .int .i64 t.kind) (b2 := .string t.text) (b3 := .string t.glyph) hX2
        have hB9 := ((HB2.out.setCell (p := ⟨w.heap.size, 0, none⟩) (Nat.le_refl _) (.int .i64 t.kind)).setCell (p := ⟨w.heap.size, 1, none⟩) (Nat.le_refl _) (.string t.text)).setCell (p := ⟨w.heap.size, 2, none⟩) (Nat.le_refl _) (.string t.glyph)
        generalize ((w2.setCell ⟨w.heap.size, 0, none⟩ (.int .i64 t.kind)).setCell ⟨w.heap.size, 1, none⟩ (.string t.text)).setCell ⟨w.heap.size, 2, none⟩ (.string t.glyph) = W8 at *
        have hl8 := (Array.getElem?_eq_some_iff.1 hR9).1
        have hR10 := (Lib.alloc_old W8 (.cells #[.int .i64 t.kind, .string t.text, .string t.glyph] tK) w.heap.size hl8).trans hR9
        have hB10 := hB9.alloc (by omega) (.cells #[.int .i64 t.kind, .string t.text, .string t.glyph] tK)
        generalize W8.alloc (.cells #[.int .i64 t.kind, .string t.text, .string t.glyph] 27) = W9 at *
        obtain ⟨y0, y1, y2, _⟩ := tok_cells hR10
        exact bodyPost_ret (v := .agg #[.int .i64 t.kind, .string t.text, .string t.glyph]) (by simp [results, Tryd.results23, go_sem, y0, y1, y2]) rfl ⟨by rw [HR.out]; rfl, hB10⟩
    · obtain rfl : k = 7 := by omega
      have HR : Hid (d = noTok) := Lib.hid (by
        have h7 := HP.out
        rw [List.take_of_length_le (by rw [HLN.out]; exact Nat.le_refl _)] at h7
        rw [← HSF.out, pick_skip ts 7 (fun x hx => h7 x (List.mem_of_mem_take hx)), List.drop_of_length_le (by rw [HLN.out]; exact Nat.le_refl _)]
        rfl)
      obtain ⟨x0, x1, x2, z0⟩ := tok_cells hXr
      go_wp2_with fail
      have hR9 := set3 (b1 := .int .i64 0) (b2 := .string (ByteArray.mk #[])) (b3 := .string (ByteArray.mk #[])) hXr
      have hB9 := ((HB.out.setCell (p := ⟨w.heap.size, 0, none⟩) (Nat.le_refl _) (.int .i64 0)).setCell (p := ⟨w.heap.size, 1, none⟩) (Nat.le_refl _) (.string (ByteArray.mk #[]))).setCell (p := ⟨w.heap.size, 2, none⟩) (Nat.le_refl _) (.string (ByteArray.mk #[]))
      generalize (((wr.setCell ⟨w.heap.size, 0, none⟩ (.int .i64 0)).setCell ⟨w.heap.size, 1, none⟩ (.string (ByteArray.mk #[]))).setCell ⟨w.heap.size, 2, none⟩ (.string (ByteArray.mk #[]))) = W9 at *
      have y0 : W9.cell? ⟨w.heap.size, 0, none⟩ = some (.int .i64 0) := by simp [World.cell?, hR9]
      have y1 : W9.cell? ⟨w.heap.size, 1, none⟩ = some (.string (ByteArray.mk #[])) := by simp [World.cell?, hR9]
      have y2 : W9.cell? ⟨w.heap.size, 2, none⟩ = some (.string (ByteArray.mk #[])) := by simp [World.cell?, hR9]
      exact bodyPost_ret (v := .agg #[.int .i64 0, .string (ByteArray.mk #[]), .string (ByteArray.mk #[])]) (by simp [results, Tryd.results23, go_sem, y0, y1, y2]) rfl ⟨by rw [HR.out]; rfl, hB9⟩

end Go.Proofs.YteojnejomgomjaaDoor
