/-
  The law GroupWraps: true.
-/
import Derived.Test.YtlokkdbgihbnhabDoorProg
import Derived.Test.YtlokkdbgihbnhabDoorReg
import Derived.WalkKit
import Derived.WalkSpells
import Derived.WalkLawsBesides
import Derived.Lib.Hide
import Derived.Lib.MinMax
import Derived.Deep.QuietTactic
import Derived.BigQuiet
import Derived.OwnWalk
import Derived.Deep.AppendLies
import Derived.KernelRfl
import Derived.Laws.Rows
import Derived.Maps.AppendAt
import Derived.Test.YtlokkdbgihbnhabDoorRegG
import Derived.Test.YtlokkdbgihbnhabDoorGrpSh
import Derived.Test.YtlokkdbgihbnhabDoorGrpAp
set_option linter.unusedSimpArgs false
set_option linter.unusedVariables false
namespace Go.Proofs.YtlokkdbgihbnhabDoor
open Go Go.RowKit

def tokX : Tok := ⟨8, gPar, gPar⟩
def tokY : Tok := ⟨8, gPas, gPas⟩
theorem tokX_br : tokX.br = some (true, true) := by decide +kernel
theorem tokY_br : tokY.br = some (false, true) := by decide +kernel
def wrapd (l : List Tok) : List Tok := tokX :: l ++ [tokY]
theorem wrapd_len (l : List Tok) : (wrapd l).length = l.length + 2 := by simp [wrapd]
theorem wrapd_mild {l : List Tok} (h : mildT l) (h60 : l.length ≤ 60) : mildT (wrapd l) := by
  have hx : tokX.text.size ≤ 1000000 ∧ tokX.glyph.size ≤ 1000000 := by decide +kernel
  have hy : tokY.text.size ≤ 1000000 ∧ tokY.glyph.size ≤ 1000000 := by decide +kernel
  refine ⟨by rw [wrapd_len]; omega, fun k x hk => ?_⟩
  unfold wrapd at hk
  rcases List.mem_append.1 (List.mem_of_getElem? hk) with h1 | h1
  · rcases List.mem_cons.1 h1 with rfl | h1
    · exact hx
    · obtain ⟨j, hj⟩ := List.mem_iff_getElem?.1 h1
      exact h.2 j x hj
  · simp at h1
    subst h1
    exact hy
theorem wrapd_seg (l : List Tok) : seg (wrapd l) 1 (l.length + 1) = l := by
  unfold seg wrapd
  simp
theorem dp_get {l : List Tok} (h : codeOf l = 0) {n : Nat} (hn : n < l.length) : (deepOf l)[n]? = some ((brsOf l).dp n : Int) := by
  have h1 := (brsOf_len h).2
  rw [deepOf_yes h]
  unfold Brs.dp
  rw [List.getD_eq_getElem?_getD, List.getElem?_map, List.getElem?_eq_getElem (by omega)]
  rfl
theorem dp_len {l : List Tok} (h : codeOf l = 0) : (deepOf l).length = l.length := by rw [deepOf_yes h, List.length_map]; exact (brsOf_len h).2

theorem deeps_le : ∀ {m : List (Option (Bool × Bool))} {s t : Brs}, s.run m = some t → s.stack.length ≤ s.most → (∀ d ∈ s.deeps, d ≤ s.most) → ∀ d ∈ t.deeps, d ≤ t.most
  | [], s, t, h, _, h2 => by
    simp only [Brs.run, Option.some.injEq] at h
    subst h
    exact h2
  | x :: m, s, t, h, h1, h2 => by
    simp only [Brs.run] at h
    cases hs : s.step x with
    | none => simp [hs] at h
    | some u =>
      simp only [hs, Option.bind_some] at h
      have hu : u.stack.length ≤ u.most ∧ ∀ d ∈ u.deeps, d ≤ u.most := by
        match x, hs with
        | none, hs =>
          simp only [Brs.step, Option.some.injEq] at hs
          subst hs
          refine ⟨h1, fun d hd => ?_⟩
          rcases List.mem_append.1 hd with hd | hd
          · exact h2 d hd
          · simp at hd; subst hd; exact h1
        | some (true, b), hs =>
          simp only [Brs.step, Option.some.injEq] at hs
          subst hs
          refine ⟨by simp; omega, fun d hd => ?_⟩
          rcases List.mem_append.1 hd with hd | hd
          · have := h2 d hd
            simp only
            omega
          · simp at hd; subst hd; simp only; omega
        | some (false, b), hs =>
          simp only [Brs.step] at hs
          split at hs
          · cases hs
          · split at hs
            · rename_i q c r hr hcb
              simp only [Option.some.injEq] at hs
              subst hs
              rw [hr] at h1
              simp only [List.length_cons] at h1
              refine ⟨by simp only; omega, fun d hd => ?_⟩
              rcases List.mem_append.1 hd with hd | hd
              · exact h2 d hd
              · simp at hd; subst hd; simp only; omega
            · cases hs
      exact deeps_le h hu.1 hu.2
theorem dp_le {l : List Tok} (h : codeOf l = 0) {k : Nat} (hk : k < l.length) : (brsOf l).dp k ≤ 20 := by
  obtain ⟨h1, _, h3⟩ := codeOf_ok h
  have hn := (brsOf_len h).2
  have := deeps_le h1 (by simp [Brs.none0]) (by simp [Brs.none0]) ((brsOf l).deeps[k]'(by omega)) (List.getElem_mem _)
  unfold Brs.dp
  rw [List.getD_eq_getElem?_getD, List.getElem?_eq_getElem (by omega)]
  simp only [Option.getD_some]
  omega

/-- What is told of a list in brackets. -/
theorem wrapd_ways (l : List Tok) : (codeOf l = 0 ∧ codeOf (wrapd l) = 0 ∧ (deepOf (wrapd l))[0]? = some 0 ∧ (∀ k, k < l.length → (deepOf (wrapd l))[k + 1]? = some ((brsOf l).dp k + 1 : Int)) ∧ insideRes (wrapd l) 0 = (l, 0)) ∨
    (codeOf l = 0 ∧ codeOf (wrapd l) = 61) ∨ (codeOf l = 61 ∧ codeOf (wrapd l) = 61) ∨ codeOf l = 60 := by
  rcases codeOf_ways l with h | h | h
  · obtain ⟨hr, hs, hm⟩ := codeOf_ok h
    have ww := wraps_law tokX_br tokY_br hr hs
    change codeOf (wrapd l) = _ ∧ (brsOf (wrapd l)).deeps = _ ∧ (brsOf (wrapd l)).pairs.getD 0 (-1) = _ at ww
    obtain ⟨w1, w2, w3⟩ := ww
    have hn := (brsOf_len h).2
    by_cases h20 : 20 < (brsOf l).most + 1
    · rw [if_pos h20] at w1
      exact Or.inr (Or.inl ⟨h, w1⟩)
    · rw [if_neg h20] at w1
      refine Or.inl ⟨h, w1, ?_, fun k hk => ?_, ?_⟩
      · rw [deepOf_yes w1]
        rw [w2]
        rfl
      · rw [deepOf_yes w1]
        rw [w2]
        have e : ((0 :: (brsOf l).deeps.map (· + 1) ++ [0]).map (fun (d : Nat) => (d : Int)))[k + 1]? = ((((brsOf l).deeps.map (· + 1) ++ [0])).map (fun (d : Nat) => (d : Int)))[k]? := rfl
        rw [e, List.map_append, List.getElem?_append_left (by simp; omega), List.map_map, List.getElem?_map, List.getElem?_eq_getElem (by omega)]
        unfold Brs.dp
        rw [List.getD_eq_getElem?_getD, List.getElem?_eq_getElem (by omega)]
        simp
      · have hp : (brsOf (wrapd l)).pr 0 = ((l.length + 1 : Nat) : Int) := by
          unfold Brs.pr
          rw [w3]
          simp
        have := insideRes_yes (l := wrapd l) (n := 0) (j := l.length + 1) w1 (by rw [wrapd_len]; omega) hp (by omega)
        rw [wrapd_seg] at this
        simpa using this
  · exact Or.inr (Or.inr (Or.inr h))
  · exact Or.inr (Or.inr (Or.inl ⟨h, wraps_none tokX_br tokY_br h⟩))

set_option maxRecDepth 100000 in
set_option maxHeartbeats 8000000 in
theorem groupWraps_any (A : Option Addr) (c : Nat) (l0 : List Tok) (w : World) (hl0 : l0.length ≤ maxLen) (hs0 : ∀ (k : Nat) (x : Tok), l0[k]? = some x → x.text.size ≤ maxLen ∧ x.glyph.size ≤ maxLen) (hh0 : HoldsT w A l0) (hg0 : Listed w) :
    Calls Tryd.prog 3 #[.slice A l0.length c] w fun e w' => e = .returned (.bool true) ∧ Below w.heap.size w w' := by
  obtain ⟨i0, hi0, hz0, hz1, hz2⟩ := info_parts infoTok
  have HSh := Lib.hid (shown_any w hg0)
  have HF := Lib.hid (fun u hu => few_any A c l0 u hl0 hs0 hu)
  go_enter Tryd.func3, Tryd.ntmps3
  go_wp2_with fail
  refine HSh.out.mono ?_
  rintro e w1 ⟨rfl, hb1⟩
  have hh1 := hh0.below hb1
  have hg1 := hg0.below hb1
  clear HSh
  go_wp2_with fail
  refine (HF.out _ hh1).mono ?_
  rintro e w2 ⟨B, d, rfl, hT2, hd, hb2⟩
  have hm := mild_few l0
  have hlen := few_len l0
  have hb12 := hb1.trans (hb2.mono hb1.size)
  have hg2 := hg1.below hb2
  generalize few l0 = l at *
  clear HF hb1 hb2 hh1 hg1 hs0
  have H1 := Lib.hid (gdeep_any B d l w2 hm hT2 hg2)
  go_wp2_with fail
  refine H1.out.mono ?_
  rintro e w3 ⟨B3, d3, rfl, hm3, hb3⟩
  have hT3 := hT2.below hb3
  have hg3 := hg2.below hb3
  have hb13 := hb12.trans (hb3.mono hb12.size)
  clear H1 hb12 hb3 hT2 hg2
  obtain ⟨al, hal⟩ : ∃ al, wrapd l = al := ⟨_, rfl⟩
  have HAL := Lib.hid hal
  clear hal
  have e1 : tokCells ([tokX] ++ l) = tokX.cells ++ tokCells l := by rw [tokCells_append, tokCells_one]
  have own0 := World.ownsRow_nil w3 w3.heap.size 30 3
  go_wp2_with (first | (at_builtin; refine wpList_append_own _ rfl _ _ 22 rfl w3.heap.size 30 i0 _ 3 40 Tryd.underlying22 hi0 hz0 hz1 hz2 rfl (by decide) (.slice none 0 0) 0 [] rfl (own0.alloc _) ⟨w3.heap.size, 0, none⟩ 1 1 tokX.cells rfl rfl (World.news_of_block (cs := tokX.cells.toArray) (t := 30) (fr := (0, 0)) (heap_alloc_new w3 _)) (by simp [Tok.cells, Value.oneCell']) (by unfold maxLen; omega) (by omega) (by simp) ?_; intro v1 w4 r2 r3 _; rw [Nat.zero_add, List.nil_append] at r2; have hb4 : Below w3.heap.size w3 w4 := ((Below.refl _ _).alloc (Nat.le_refl _) _).grown r3 (by simp) (fun k hk => by simp [Value.ownBlock] at hk); have ge4 := ownBlock_ge r2; obtain ⟨A6, c6, rfl⟩ := owns_slice r2; clear own0) | (at_builtin; refine wpList_append_toks (w := w4) rfl _ _ rfl rfl i0 _ hi0 hz0 hz1 hz2 rfl w3.heap.size _ _ _ rfl r2 B d l rfl (hT3.below hb4) (by omega) (by omega) hb4.size ?_; intro v2 w5 s2 s3; have hb5 : Below w3.heap.size w3 w5 := hb4.grown s3 hb4.size ge4; have ge5 := ownBlock_ge s2; obtain ⟨A7, c7, rfl⟩ := owns_slice s2; clear r2) | (at_builtin; refine wpList_append_own _ rfl _ _ 22 rfl w3.heap.size 30 i0 _ 3 40 Tryd.underlying22 hi0 hz0 hz1 hz2 rfl (by decide) _ _ _ rfl (s2.alloc _) ⟨w5.heap.size, 0, none⟩ 1 1 tokY.cells rfl rfl (World.news_of_block (cs := tokY.cells.toArray) (t := 30) (fr := (0, 0)) (heap_alloc_new w5 _)) (by simp [Tok.cells, Value.oneCell']) (by unfold maxLen; omega) (by omega) (by have := hb5.size; simp; omega) ?_; intro v3 w6 t2 t3 _; have hb6 : Below w3.heap.size w3 w6 := (hb5.alloc hb5.size _).grown t3 (by have := hb5.size; simp; omega) ge5; rw [← e1, ← tokCells_one, ← tokCells_append] at t2; change w6.ownsRow _ _ _ _ _ (tokCells (wrapd l)) at t2; rw [HAL.out] at t2; obtain ⟨E, de, rfl, hn2, hV6, hde⟩ := holdsT_of_own t2; clear s2))
  go_wp2_with fail
  have hg6 := hg3.below hb6
  have hmil : mildT al := by rw [← HAL.out]; exact wrapd_mild hm hlen
  have hT6 := hT3.below hb6
  have hm36 := hm3.below hb6
  have hb16 := hb13.trans (hb6.mono hb13.size)
  have H2 := Lib.hid (gdeep_any E de al w6 hmil hV6 hg6)
  clear hb4 hb5 hb6 t2 t3 s3 r3 hb13 hT3 hm3 hg3
  refine H2.out.mono ?_
  rintro e w7 ⟨B7, d7, rfl, hm7, hb7⟩
  have hV7 := hV6.below hb7
  have hg7 := hg6.below hb7
  have hT7 := hT6.below hb7
  have hm37 := hm36.below hb7
  have hb17 := hb16.trans (hb7.mono hb16.size)
  have H3 := Lib.hid (ginside_any E de al 0 w7 hmil hde hV7 hg7)
  clear H2 hb7 hV6 hg6 hT6 hm36 hb16
  go_wp2_with fail
  refine H3.out.mono ?_
  rintro e w8 ⟨B8, d8, rfl, hS8, hb8⟩
  have hT8 := Lib.hid (hT7.below hb8)
  have hm38 := Lib.hid (hm37.below hb8)
  have hm78 := Lib.hid (hm7.below hb8)
  have hb18 := Lib.hid (hb17.trans (hb8.mono hb17.size))
  have hways := wrapd_ways l
  rw [HAL.out] at hways
  have hl1 := hm.1
  clear H3 hb8 hT7 hm37 hm7 hb17 hV7 hg7
  rcases hways with ⟨c1, c2, x0, xk, hin⟩ | ⟨c1, c2⟩ | ⟨c1, c2⟩ | c1
  · have n1 := dp_len c1
    have n2 := dp_len c2
    have n3 : al.length = l.length + 2 := by rw [← HAL.out]; exact wrapd_len l
    have HD := Lib.hid (fun k (h : k < l.length) => dp_get c1 h)
    have HX := Lib.hid xk
    have HX0 := Lib.hid x0
    have HL := Lib.hid (fun k (h : k < l.length) => dp_le c1 h)
    have HSm : Hid (∀ n, Calls Tryd.prog 8 #[.slice B8 l.length d8, .slice B l.length d] (w8.drewN n) fun r w' => r = .returned (.bool true) ∧ ∃ m, w' = (w8.drewN n).drewN m) := Lib.hid (fun n => by
      rw [hin] at hS8
      simpa using same_any B8 B d8 d l l (w8.drewN n) (by omega) (by omega) (hS8.drewN n) (hT8.out.drewN n))
    rw [c1, c2, hin, n1, n2]
    simp only
    clear c1 c2 hin n1 n2 x0 xk hS8
    go_wp2_with fail
    go_loopw [11] (fun i wr => ∃ k n : Nat, k ≤ l.length ∧ i = .int .i64 k ∧ wr = w8.drewN n) (fun i _ => l.length - (intOf i).toNat)
    case atStart => exact ⟨0, 0, by omega, rfl, rfl⟩
    case round =>
      obtain ⟨k, n, hk, rfl, rfl⟩ := hrel
      by_cases hlt : k < l.length
      · obtain ⟨b3, o3, rfl, c3⟩ := hm38.out k _ (HD.out k hlt)
        obtain ⟨b7, o7, rfl, c7⟩ := hm78.out (k + 1) _ (HX.out k hlt)
        have hdk := HL.out k hlt
        generalize (brsOf l).dp k = dk at *
        have f1 : IntKind.i64.wrap ((k : Int) + 1) = (k : Int) + 1 := by rw [IntWalk.i64_in] <;> omega
        have f2 : ((k : Int) + 1).toNat = k + 1 := by omega
        have f3 : (0 : Int) ≤ (k : Int) + 1 := by omega
        have f4 : (k : Int) + 1 < (al.length : Int) := by omega
        have f5 : decide ((al.length : Int) ≤ (k : Int) + 1) = false := by rw [decide_eq_false_iff_not]; omega
        have f6 : IntKind.i64.wrap ((dk : Int) + 1) = (dk : Int) + 1 := by rw [IntWalk.i64_in] <;> omega
        have f7 : ((dk : Int) + 1 != (dk : Int) + 1) = false := by simp
        clear n3
        go_wp2_with fail
        go_quiet (fail)
        go_wp2_with fail
        go_roundw
        case rel => exact ⟨k + 1, _, by omega, by go_num, rfl⟩
        case measure => simp [intOf]; omega
      · obtain rfl : k = l.length := by omega
        obtain ⟨b7, o7, rfl, c7⟩ := hm78.out 0 _ HX0.out
        rw [Nat.add_zero] at c7
        have f1 : (0 : Int) < (al.length : Int) := by omega
        have HS1 := Lib.hid (HSm.out n)
        clear n3
        go_wp2_with fail
        refine HS1.out.mono ?_
        rintro e w9 ⟨rfl, n9, rfl⟩
        go_wp2_with fail
        go_ret
        exact ⟨rfl, below_drewN hb18.out _⟩
  · rw [c1, c2]
    clear c1 c2
    go_wp2_with fail
    go_ret
    exact ⟨rfl, hb18.out⟩
  · rw [c1, c2]
    clear c1 c2
    go_wp2_with fail
    go_ret
    exact ⟨rfl, hb18.out⟩
  · rw [c1]
    clear c1
    have hc := codeOf_ways al
    generalize codeOf al = ca at *
    rcases hc with rfl | rfl | rfl
    all_goals
      go_wp2_with fail
      go_ret
      exact ⟨rfl, hb18.out⟩
end Go.Proofs.YtlokkdbgihbnhabDoor
