/-
  The law GroupJoins: true.
-/
import Derived.Test.YtlokkdbgihbnhaaDoorProg
import Derived.Test.YtlokkdbgihbnhaaDoorReg
import Derived.WalkKit
import Derived.WalkSpells
import Derived.WalkLawsBesides
import Derived.Lib.Hide
import Derived.Lib.MinMax
import Derived.Deep.QuietTactic
import Derived.BigQuiet
import Derived.OwnWalk
import Derived.Deep.AppendLies
import Derived.KernelRfl
import Derived.Laws.Rows
import Derived.Test.YtlokkdbgihbnhaaDoorGrpSh
import Derived.Test.YtlokkdbgihbnhaaDoorGrpAp
import Derived.Test.YtlokkdbgihbnhaaDoorLawGDeeper
set_option linter.unusedSimpArgs false
set_option linter.unusedVariables false
namespace Go.Proofs.YtlokkdbgihbnhaaDoor
open Go Go.RowKit

theorem mild_append {l m : List Tok} (hl : mildT l) (hm : mildT m) (h1 : l.length ≤ 60) (h2 : m.length ≤ 60) : mildT (l ++ m) := by
  refine ⟨by simp; omega, fun k x hx => ?_⟩
  by_cases hk : k < l.length
  · rw [List.getElem?_append_left hk] at hx
    exact hl.2 k x hx
  · rw [List.getElem?_append_right (by omega)] at hx
    exact hm.2 _ x hx

/-- A partner of the one behind the other. -/
theorem joins_get {l m : List Tok} (hl : codeOf l = 0) (hm : codeOf m = 0) {k : Nat} (hk : k < (l ++ m).length) :
    (k < l.length → (matchOf (l ++ m))[k]? = some ((brsOf l).pr k)) ∧
    (l.length ≤ k → (0 ≤ (brsOf m).pr (k - l.length) → (matchOf (l ++ m))[k]? = some ((brsOf m).pr (k - l.length) + (l.length : Int))) ∧ ((brsOf m).pr (k - l.length) < 0 → (brsOf m).pr (k - l.length) = -1 ∧ (matchOf (l ++ m))[k]? = some (-1))) := by
  obtain ⟨h1, h2⟩ := joins_law hl hm
  rw [matchOf_yes h1, h2]
  obtain ⟨n1, _⟩ := brsOf_len hl
  obtain ⟨n2, _⟩ := brsOf_len hm
  simp only [List.length_append] at hk
  refine ⟨fun h => ?_, fun h => ?_⟩
  · rw [List.getElem?_append_left (by omega)]
    exact pr_get hl h
  · rw [List.getElem?_append_right (by omega), n1, List.getElem?_map, pr_get hm (by omega)]
    refine ⟨fun h0 => ?_, fun h0 => ?_⟩
    · rw [Option.map_some, if_neg (by omega)]
    · have hp : (brsOf m).pr (k - l.length) = -1 := by
        by_cases hp : (brsOf m).pr (k - l.length) = -1
        · exact hp
        · obtain ⟨j, e, _⟩ := partners_law hm (i := k - l.length) (by omega) hp
          omega
      refine ⟨hp, ?_⟩
      rw [hp]
      rfl

set_option maxRecDepth 100000 in
set_option maxHeartbeats 8000000 in
theorem groupJoins_any (A1 A2 : Option Addr) (c1 c2 : Nat) (l0 m0 : List Tok) (w : World) (hl0 : l0.length ≤ maxLen) (hs0 : ∀ (k : Nat) (x : Tok), l0[k]? = some x → x.text.size ≤ maxLen ∧ x.glyph.size ≤ maxLen) (hh0 : HoldsT w A1 l0)
    (hm0 : m0.length ≤ maxLen) (ht0 : ∀ (k : Nat) (x : Tok), m0[k]? = some x → x.text.size ≤ maxLen ∧ x.glyph.size ≤ maxLen) (hk0 : HoldsT w A2 m0) (hg0 : Listed w) :
    Calls Tryd.prog 6 #[.slice A1 l0.length c1, .slice A2 m0.length c2] w fun e w' => e = .returned (.bool true) ∧ Below w.heap.size w w' := by
  obtain ⟨i0, hi0, hz0, hz1, hz2⟩ := info_parts infoTok
  have HSh := Lib.hid (shown_any w hg0)
  have HF := Lib.hid (fun u hu => few_any A1 c1 l0 u hl0 hs0 hu)
  have HG := Lib.hid (fun u hu => few_any A2 c2 m0 u hm0 ht0 hu)
  go_enter Tryd.func6, Tryd.ntmps6
  go_wp2_with fail
  refine HSh.out.mono ?_
  rintro e w1 ⟨rfl, hb1⟩
  have hh1 := hh0.below hb1
  have hk1 := hk0.below hb1
  have hg1 := hg0.below hb1
  clear HSh
  go_wp2_with fail
  refine (HF.out _ hh1).mono ?_
  rintro e w2 ⟨B, d, rfl, hT2, hd, hb2⟩
  have hm := mild_few l0
  have hlen := few_len l0
  have hb12 := hb1.trans (hb2.mono hb1.size)
  have hg2 := hg1.below hb2
  have hk2 := hk1.below hb2
  generalize few l0 = l at *
  clear HF hb1 hb2 hh1 hg1 hs0 hk1
  go_wp2_with fail
  refine (HG.out _ hk2).mono ?_
  rintro e w3 ⟨C, dc, rfl, hU3, hdc, hb3⟩
  have hmm := mild_few m0
  have hmlen := few_len m0
  have hb13 := hb12.trans (hb3.mono hb12.size)
  have hg3 := hg2.below hb3
  have hT3 := hT2.below hb3
  generalize few m0 = m at *
  clear HG hb12 hb3 hg2 ht0 hk2 hT2
  have H1 := Lib.hid (gmatch_any B d l w3 hm hT3 hg3)
  go_wp2_with fail
  refine H1.out.mono ?_
  rintro e w4 ⟨B4, d4, rfl, hm4, hb4⟩
  have hT4 := hT3.below hb4
  have hU4 := hU3.below hb4
  have hg4 := hg3.below hb4
  have hb14 := hb13.trans (hb4.mono hb13.size)
  clear H1 hb13 hb4 hT3 hg3 hU3
  have H2 := Lib.hid (gmatch_any C dc m w4 hmm hU4 hg4)
  go_wp2_with fail
  refine H2.out.mono ?_
  rintro e w5 ⟨B5, d5, rfl, hm5, hb5⟩
  have hT5 := hT4.below hb5
  have hU5 := hU4.below hb5
  have hg5 := hg4.below hb5
  have hm45 := hm4.below hb5
  have hb15 := hb14.trans (hb5.mono hb14.size)
  clear H2 hb14 hb5 hT4 hg4 hU4 hm4
  obtain ⟨al, hal⟩ : ∃ al, l ++ m = al := ⟨_, rfl⟩
  have HAL := Lib.hid hal
  have HALn : Hid (al.length = l.length + m.length) := Lib.hid (by rw [← hal]; simp)
  clear hal
  have own0 := World.ownsRow_nil w5 w5.heap.size 31 3
  go_wp2_with (first | (at_builtin; refine wpList_append_toks (w := w5) rfl _ _ rfl rfl i0 _ hi0 hz0 hz1 hz2 rfl w5.heap.size (.slice none 0 0) 0 [] rfl own0 B d l rfl hT5 (by omega) (by omega) (Nat.le_refl _) ?_; intro v1 w6 r2 r3; rw [Nat.zero_add, List.nil_append] at r2; obtain ⟨A6, c6, rfl⟩ := owns_slice r2; have hb6 : Below w5.heap.size w5 w6 := (Below.refl _ _).grown r3 (Nat.le_refl _) (fun k hk => by simp [Value.ownBlock] at hk); clear own0) | (at_builtin; refine wpList_append_toks (w := w6) rfl _ _ rfl rfl i0 _ hi0 hz0 hz1 hz2 rfl w5.heap.size _ _ _ rfl r2 C dc m rfl (hU5.below hb6) (by omega) (by omega) hb6.size ?_; intro v2 w7 s2 s3; have hb7 : Below w5.heap.size w5 w7 := hb6.grown s3 hb6.size (ownBlock_ge r2); rw [← tokCells_append, HAL.out] at s2; obtain ⟨E, de, rfl, hn2, hV7, hde⟩ := holdsT_of_own s2; have hg7 := hg5.below hb7; have hm47 := hm45.below hb7; have hm57 := hm5.below hb7; have hb17 := hb15.trans (hb7.mono hb15.size); clear hb6 r2 r3 s2 s3))
  go_wp2_with fail
  have H3 := Lib.hid (gmatch_any E de al w7 (by rw [← HAL.out]; exact mild_append hm hmm hlen hmlen) hV7 hg7)
  refine H3.out.mono ?_
  rintro e w8 ⟨B8, d8, rfl, hm8, hb8⟩
  have hm48 := Lib.hid (hm47.below hb8)
  have hm58 := Lib.hid (hm57.below hb8)
  have hm88 := Lib.hid hm8
  have hb18 := Lib.hid (hb17.trans (hb8.mono hb17.size))
  have hl1 := hm.1
  have hm1 := hmm.1
  clear H3 hm47 hm57 hb17 hb8 hm8 hb15 hT5 hU5 hg5 hm45 hm5 hb7 hg7 hV7
  by_cases h0 : codeOf l = 0
  · by_cases h1 : codeOf m = 0
    · have hj := (joins_law h0 h1).1
      rw [HAL.out] at hj
      have n1 := mp_len h0
      have n2 := mp_len h1
      have n3 := mp_len hj
      have HG := Lib.hid (fun k (h : k < al.length) => by
        have := joins_get h0 h1 (k := k) (by rw [HAL.out]; exact h)
        rwa [HAL.out] at this)
      have HA := Lib.hid (fun k (h : k < l.length) => mp_get h0 h)
      have HQ := Lib.hid (fun i (h : i < m.length) => partners_law h1 h)
      have HB := Lib.hid (fun k (h : k < m.length) => mp_get h1 h)
      rw [n1, n2, n3, h0, h1, hj]
      clear n1 n2 n3 h0 h1 hj
      go_wp2_with fail
      go_loop [13, 14] (fun i u => ∃ k : Nat, k ≤ al.length ∧ i = .int .i64 k) (fun i _ => al.length - (intOf i).toNat)
      case atStart => exact ⟨0, by omega, rfl⟩
      case round =>
        obtain ⟨k, hk, rfl⟩ := hrel
        by_cases hlt : k < al.length
        · obtain ⟨g1, g2⟩ := HG.out k hlt
          by_cases hkl : k < l.length
          · have gg := g1 hkl
            obtain ⟨b4, o4, rfl, c4⟩ := hm48.out k _ (HA.out k hkl)
            obtain ⟨b8, o8, rfl, c8⟩ := hm88.out k _ gg
            generalize (brsOf l).pr k = p at *
            have z4 : (p != p) = false := by simp
            clear g1 g2 gg
            go_wp2_with fail
            go_round
            case rel => exact ⟨k + 1, by omega, by go_num⟩
            case measure => simp [intOf]; omega
          · obtain ⟨g3, g4⟩ := g2 (by omega)
            have hn := HALn.out
            have hkm : k - l.length < m.length := by omega
            clear hn
            obtain ⟨b5, o5, rfl, c5⟩ := hm58.out (k - l.length) _ (HB.out _ hkm)
            have e1 : (k : Int) - (l.length : Int) = ((k - l.length : Nat) : Int) := by omega
            have e2 : IntKind.i64.wrap ((k : Int) - (l.length : Int)) = ((k - l.length : Nat) : Int) := by rw [IntWalk.i64_in] <;> omega
            have e3 : ((k - l.length : Nat) : Int) < (m.length : Int) := by omega
            have e4 : ¬ (k : Int) < (l.length : Int) := by omega
            generalize hq : k - l.length = q at *
            by_cases hp : 0 ≤ (brsOf m).pr q
            · have gg := g3 hp
              have hpb : (brsOf m).pr q < m.length := by
                obtain ⟨j, e, h, _⟩ := HQ.out q hkm (by omega)
                omega
              obtain ⟨b8, o8, rfl, c8⟩ := hm88.out k _ gg
              generalize (brsOf m).pr q = p at *
              have e5 : IntKind.i64.wrap (p + (l.length : Int)) = p + (l.length : Int) := by rw [IntWalk.i64_in] <;> omega
              have z4 : (p + (l.length : Int) != p + (l.length : Int)) = false := by simp
              clear g1 g2 g3 g4 gg
              go_wp2_with fail
              go_round
              case rel => exact ⟨k + 1, by omega, by go_num⟩
              case measure => simp [intOf]; omega
            · obtain ⟨g5, gg⟩ := g4 (by omega)
              obtain ⟨b8, o8, rfl, c8⟩ := hm88.out k _ gg
              generalize (brsOf m).pr q = p at *
              subst g5
              clear g1 g2 g3 g4 gg
              go_wp2_with fail
              go_round
              case rel => exact ⟨k + 1, by omega, by go_num⟩
              case measure => simp [intOf]; omega
        · obtain rfl : k = al.length := by omega
          go_wp2_with fail
          go_ret
          exact ⟨rfl, hb18.out⟩
    · have q1 : (codeOf l == 0) = true := by simpa using h0
      have q2 : (codeOf l != 0) = false := by rw [bne, q1]; rfl
      have q3 : (codeOf m == 0) = false := by simpa using h1
      have q4 : (codeOf m != 0) = true := by rw [bne, q3]; rfl
      clear h0 h1
      generalize codeOf l = cl at *
      generalize codeOf m = cm at *
      go_wp2_with fail
      go_ret
      exact ⟨rfl, hb18.out⟩
  · have q1 : (codeOf l == 0) = false := by simpa using h0
    have q2 : (codeOf l != 0) = true := by rw [bne, q1]; rfl
    clear h0
    generalize codeOf l = cl at *
    go_wp2_with fail
    go_ret
    exact ⟨rfl, hb18.out⟩
end Go.Proofs.YtlokkdbgihbnhaaDoor
