/-
  A text's tokens: by the program.
-/
import Derived.Test.YtflpihedhccdfaaGreatDoorProg
import Derived.Test.YtflpihedhccdfaaGreatDoorReg
import Derived.WalkKit
import Derived.WalkSpells
import Derived.WalkLawsBesides
import Derived.Lib.Hide
import Derived.Lib.MinMax
import Derived.Deep.QuietTactic
import Derived.BigQuiet
import Derived.OwnWalk
import Derived.Deep.AppendLies
import Derived.KernelRfl
import Derived.Laws.OwnMore
import Derived.Deep.OwnRows
import Derived.Test.YtflpihedhccdfaaGreatDoorLxM11
import Derived.Test.YtflpihedhccdfaaGreatDoorRxM
set_option linter.unusedSimpArgs false
set_option linter.unusedVariables false
namespace Go.Proofs.YtflpihedhccdfaaGreatDoor
open Go Go.RowKit

theorem toksOf_snoc : ∀ (ps : List ByteArray) (p : ByteArray), toksOf (ps ++ [p]) = if ps = [] then dLine p else toksOf ps ++ endT :: dLine p
  | [], p => rfl
  | [q], p => by simp [toksOf]
  | q :: q2 :: ps, p => by
    have ih := toksOf_snoc (q2 :: ps) p
    simp only [List.cons_append, reduceCtorEq, if_false] at ih ⊢
    rw [toksOf, ih, toksOf]
    simp
theorem toksOf_len : ∀ ps : List ByteArray, (toksOf ps).length ≤ (ps.map (fun s => s.size + 1)).sum
  | [] => Nat.le_refl _
  | [p] => by have := dLine_len p; simp [toksOf]; omega
  | p :: q :: ps => by
    have ih := toksOf_len (q :: ps)
    have := dLine_len p
    simp only [toksOf, List.length_append, List.length_cons, List.map_cons, List.sum_cons] at ih ⊢
    omega
theorem toksUp_len (ls : List Ln) (k : Nat) : (toksOf (textsOf (ls.take k))).length ≤ startL ls ls.length := by
  have h1 := toksOf_len (textsOf (ls.take k))
  have h2 := startL_le ls k
  unfold startL textsOf at *
  rw [List.map_map] at h1
  exact Nat.le_trans h1 h2
theorem endT_cells : endT.cells = [.int .i64 11, .string ⟨#[10]⟩, .string ⟨#[]⟩] := rfl

set_option maxRecDepth 100000 in
set_option maxHeartbeats 8000000 in
theorem Tokens_lex (X : Nat) (t : ByteArray) (q : Int) (w : World) (h : IsLex w X t q) (ht : t.size ≤ 4000) :
    Calls Tryz.prog 23 #[.pointer (some ⟨X, 0, none⟩)] w fun e w' => ∃ v, e = .returned v ∧ w'.ownsRow w.heap.size 55 3 v (tokensS t).length (tokCells (tokensS t)) ∧ Below w.heap.size w w' := by
  obtain ⟨i0, hi0, hz0, hz1, hz2⟩ := info_parts infoTok
  obtain ⟨base, v, ls, h1, h2, h3, h4⟩ := h
  obtain ⟨A, c, rfl, -, hH, -⟩ := holdsL_of_own h2
  have c0 : w.cell? ⟨X, 0, none⟩ = some (.slice A ls.length c) := by simp [World.cell?, h1]
  have hst := startL_size h3
  have hll : ls.length = (piecesB t).length := by rw [← h3, textsOf_len]
  have hpl := pieces_le t
  have hlen := toksUp_len ls
  have hTk : tokensS t = toksOf (textsOf ls) := by unfold tokensS; rw [h3]
  rw [hTk]
  have H4 := Lib.hid h4
  have hbd : ls.length ≤ 5000 := by omega
  clear h1 h2 h3 h4 hTk hll
  go_enter Tryz.func23, Tryz.ntmps23
  go_wp2_with fail
  go_loopw [3, 14] (fun v i wr => ∃ (k : Nat), k ≤ ls.length ∧ i = .int .i64 k ∧ wr.ownsRow w.heap.size 55 3 v (toksOf (textsOf (ls.take k))).length (tokCells (toksOf (textsOf (ls.take k)))) ∧ Below w.heap.size w wr) (fun _ i _ => ls.length - (intOf i).toNat)
  case atStart => exact ⟨0, by omega, rfl, World.ownsRow_nil _ _ _ _, Below.refl _ _⟩
  case round =>
    obtain ⟨k, hk, rfl, hown, hlow⟩ := hrel
    by_cases hlt : k < ls.length
    · have hx := List.getElem?_eq_getElem hlt
      obtain ⟨b, off, rfl, c1, c2⟩ := (hH.below hlow) k ls[k] hx
      obtain ⟨hn, bse, hto⟩ := (H4.out.below hlow) ls[k] (List.getElem_mem hlt)
      obtain ⟨-, bse0, hto0⟩ := H4.out ls[k] (List.getElem_mem hlt)
      have hlt0 := ownBlock_lt hto0
      clear hto0
      have hT := textsOf_step hx
      have hSn := toksOf_snoc (textsOf (ls.take k)) ls[k].text
      rw [← hT] at hSn
      have hnil : textsOf (ls.take k) = [] ↔ k = 0 := by
        rw [← List.length_eq_zero_iff, textsOf_len, List.length_take]; omega
      have hl1 := hlen k
      have hT10 : k = 0 → toksOf (textsOf (ls.take k)) = [] := fun e => by subst e; rfl
      have hs1 := startL_succ hx
      have hs2 := startL_le ls (k + 1)
      generalize ls[k] = x at *
      obtain ⟨A2, c2', e2, -, hHx, -⟩ := holdsT_of_own (by rw [hn] at hto; exact hto)
      have hdl := dLine_len x.text
      obtain ⟨T2, hT2e⟩ : ∃ T, T = toksOf (textsOf (ls.take (k + 1))) := ⟨_, rfl⟩
      rw [← hT2e] at hSn
      have HT2e := Lib.hid hT2e
      clear hT2e
      generalize toksOf (textsOf (ls.take k)) = T1 at *
      have hsw := hlow.size
      have HX := Lib.hid hx
      have HSn := Lib.hid hSn
      obtain ⟨xt, xr, xn, xc⟩ := x
      simp only at hn hto e2 hHx hdl hSn hs1 c1 c2 hlt0
      subst hn
      obtain ⟨rfl, rfl⟩ : xr = A2 ∧ xc = c2' := by cases e2; exact ⟨rfl, rfl⟩
      clear e2
      have hb1 := below_new wr (.cells #[.string xt, .slice xr (dLine xt).length xc] 75)
      have hz1' : (wr.alloc (.cells #[.string xt, .slice xr (dLine xt).length xc] 75)).heap.size = wr.heap.size + 1 := by simp
      have HH1 := Lib.hid (hHx.below hb1)
      have HO1 := Lib.hid (own_below hown hb1)
      have HB1 := Lib.hid ((Below.refl wr.heap.size wr).trans hb1)
      have hob := ownBlock_ge hown
      have HTO := Lib.hid hto
      have HBN := Lib.hid hb1
      by_cases h0 : k = 0
      · have hT2 : T2 = dLine xt := by rw [hSn, if_pos (hnil.2 h0)]
        have hT1 : T1 = [] := hT10 h0
        clear hSn HSn hnil hHx hto hb1 HX
        have hgt : ¬ (0 : Int) < (k : Int) := by omega
        clear h0 hT10
        go_wp2_with (at_builtin; go_must (refine wpList_append_toks rfl _ _ rfl rfl i0 _ hi0 hz0 hz1 hz2 rfl w.heap.size _ T1.length (tokCells T1) rfl HO1.out xr xc (dLine xt) rfl HH1.out (by omega) (by omega) (by simp; omega) ?_); go_must (intro v1 w3 hown3 hg3))
        go_roundw
        case rel =>
          refine ⟨k + 1, by omega, by go_num, ?_, ((hlow.trans (HB1.out.mono hsw)).grown hg3 (by simp; omega) hob)⟩
          rw [← HT2e.out, hT2]
          rw [hT1] at hown3
          simpa [tokCells] using hown3
        case measure => simp [intOf]; omega
      · have hT2 : T2 = T1 ++ endT :: dLine xt := by rw [hSn, if_neg (fun e => h0 (hnil.1 e))]
        have hgt : (0 : Int) < (k : Int) := by omega
        clear hSn HSn hnil hHx hto hb1 HX
        have HO2 := Lib.hid (own_below HO1.out (below_new _ (.cells #[.int .i64 11, .string ⟨#[10]⟩, .string ⟨#[]⟩] 55)))
        have HH2 := Lib.hid (HH1.out.below (below_new _ (.cells #[.int .i64 11, .string ⟨#[10]⟩, .string ⟨#[]⟩] 55)))
        have hto2 := own_below (own_below HTO.out HBN.out) (below_new _ (.cells #[.int .i64 11, .string ⟨#[10]⟩, .string ⟨#[]⟩] 55))
        have HTO2 := Lib.hid hto2
        have hap : (Value.slice xr (dLine xt).length xc).ownBlock = none ∨ (Value.slice xr (dLine xt).length xc).ownBlock ≠ u3.ownBlock := by
          cases hv : (Value.slice xr (dLine xt).length xc).ownBlock with
          | none => exact Or.inl rfl
          | some g => exact Or.inr (fun e => by have h8 := hlt0 g hv; have h9 := hob g e.symm; omega)
        have hy2 : ((wr.alloc (.cells #[.string xt, .slice xr (dLine xt).length xc] 75)).alloc (.cells #[.int .i64 11, .string ⟨#[10]⟩, .string ⟨#[]⟩] 55)).heap[wr.heap.size]? = some (.cells #[.string xt, .slice xr (dLine xt).length xc] 75 (0, 0)) :=
          ((below_new _ (.cells #[.int .i64 11, .string ⟨#[10]⟩, .string ⟨#[]⟩] 55)).block _ (by simp)).trans (heap_alloc_new wr _)
        have HY2 := Lib.hid hy2
        have HAP := Lib.hid hap
        have HLT := Lib.hid hlt0
        clear hto2 hy2 hap hlt0 h0 hT10
        go_wp2_with (first
          | (at_builtin; refine wpList_append_own _ rfl _ _ 35 rfl w.heap.size 55 i0 _ 3 40 Tryz.underlying35 hi0 hz0 hz1 hz2 rfl (by decide) u3 T1.length (tokCells T1) rfl HO2.out ⟨wr.heap.size + 1, 0, none⟩ 1 1 [.int .i64 11, .string ⟨#[10]⟩, .string ⟨#[]⟩] rfl rfl (World.news_of_block (cs := #[.int .i64 11, .string ⟨#[10]⟩, .string ⟨#[]⟩]) (t := 55) (fr := (0, 0)) (by have := heap_alloc_new (wr.alloc (.cells #[.string xt, .slice xr (dLine xt).length xc] 75)) (.cells #[.int .i64 11, .string ⟨#[10]⟩, .string ⟨#[]⟩] 55); simpa using this)) (by simp [Value.oneCell']) (by unfold maxLen; omega) (by omega) (by simp; omega) ?_; intro v1 w3 hown3 hg3 _; have hy3 := (hg3.block wr.heap.size (by simp; omega) (fun e => own_apart_cells HO2.out HY2.out (by decide) e.symm)).trans HY2.out; have cy3 : w3.cell? ⟨wr.heap.size, 1, none⟩ = some (.slice xr (dLine xt).length xc) := by {simp [World.cell?, hy3]}; have HH3 := Lib.hid (HTO2.out.kept hg3 HAP.out); have HG3 := Lib.hid hg3; have HN3 := Lib.hid hown3; have hz3 := hg3.size; clear hg3 hown3 hy3)
          | (at_builtin; go_must (obtain ⟨A9, c9, e9, -, HH9, -⟩ := holdsT_of_own HH3.out); go_must (cases e9); go_must (refine wpList_append_toks rfl _ _ rfl rfl i0 _ hi0 hz0 hz1 hz2 rfl w.heap.size _ (T1.length + 1) _ rfl HN3.out xr xc (dLine xt) rfl HH9 (by omega) (by omega) (by simp at hz3; omega) ?_); go_must (intro v4 w4 hown4 hg4)))
        go_roundw
        case rel =>
          have hz3' := hz3
          simp at hz3'
          refine ⟨k + 1, by omega, by go_num, ?_, (((hlow.trans (HB1.out.mono hsw)).alloc (by simp; omega) _).grown HG3.out (by simp; omega) hob).grown hg4 (by omega) (ownBlock_ge HN3.out)⟩
          have e : tokCells (T1 ++ endT :: dLine xt) = (tokCells T1 ++ [.int .i64 11, .string ⟨#[10]⟩, .string ⟨#[]⟩]) ++ tokCells (dLine xt) := by
            rw [tokCells_append, show endT :: dLine xt = [endT] ++ dLine xt from rfl, tokCells_append, tokCells_one, endT_cells, List.append_assoc]
          have el : (T1 ++ endT :: dLine xt).length = T1.length + 1 + (dLine xt).length := by simp; omega
          rw [← HT2e.out, hT2, e, el]
          exact hown4
        case measure => simp [intOf]; omega
    · obtain rfl : k = ls.length := by omega
      rw [List.take_length] at hown
      go_wp2_with fail
      go_ret
      exact ⟨_, rfl, hown, hlow⟩
end Go.Proofs.YtflpihedhccdfaaGreatDoor
