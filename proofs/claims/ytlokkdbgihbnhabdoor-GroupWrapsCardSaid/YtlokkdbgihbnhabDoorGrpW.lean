/-
  A glyph's class, the glyph that a text begins with, by the document's program text.
-/
import Derived.Test.YtlokkdbgihbnhabDoorProg
import Derived.Test.YtlokkdbgihbnhabDoorReg
import Derived.WalkKit
import Derived.WalkSpells
import Derived.WalkLawsBesides
import Derived.Lib.Hide
import Derived.Lib.MinMax
import Derived.Deep.QuietTactic
import Derived.BigQuiet
import Derived.OwnWalk
import Derived.Deep.AppendLies
import Derived.KernelRfl
import Derived.Test.YtlokkdbgihbnhabDoorGrpM
import Derived.Test.YtlokkdbgihbnhabDoorGrpV
set_option linter.unusedSimpArgs false
set_option linter.unusedVariables false
namespace Go.Proofs.YtlokkdbgihbnhabDoor
open Go.RowKit

theorem glyphs_len : glyphs.length = 38 := by decide +kernel
theorem glyphs_at {k : Nat} (h : k < 38) : ∃ x, glyphs[k]? = some x ∧ glyphs.drop k = x :: glyphs.drop (k + 1) := by
  have hl : k < glyphs.length := by rw [glyphs_len]; exact h
  exact ⟨glyphs[k], List.getElem?_eq_getElem hl, List.drop_eq_getElem_cons hl⟩
theorem glyphs_size {k : Nat} {x : Gly} (h : glyphs[k]? = some x) : x.glyph.size ≤ 4 ∧ x.letter.size ≤ 4 := by
  have h1 : ∀ y ∈ glyphs, y.glyph.size ≤ 4 ∧ y.letter.size ≤ 4 := by decide +kernel
  exact h1 x (List.mem_of_getElem? h)

set_option maxRecDepth 100000 in
set_option maxHeartbeats 4000000 in
theorem class_any (g : ByteArray) (w : World) :
    Calls Tryd.prog 23 #[.string g] w fun r w' => r = .returned (.int .i64 (gClass g)) ∧ Below w.heap.size w w' := by
  have T := Lib.hid table_any
  go_enter Tryd.func23, Tryd.ntmps23
  go_wp2_with fail
  refine (T.out _).mono ?_
  rintro r w1 ⟨rfl, hT, hb⟩
  have HT := Lib.hid hT
  have B := Lib.hid hb
  clear hT hb T
  go_wp2_with fail
  go_loop [4] (fun i => ∃ k : Nat, k ≤ 38 ∧ i = .int .i64 k ∧ classIn g (glyphs.drop k) = gClass g) (fun i => 38 - (intOf i).toNat)
  case atStart => exact ⟨0, by omega, rfl, rfl⟩
  case round =>
    obtain ⟨k, hk, rfl, hr⟩ := hrel
    by_cases hlt : k < 38
    · obtain ⟨x, hx, hd⟩ := glyphs_at hlt
      obtain ⟨c1, c2, c3⟩ := HT.out k x hx
      rw [hd] at hr
      have l1 := cell_lt c1
      by_cases he : x.glyph = g
      · have hq := bytes_beq_yes he
        have Z : Hid (x.cls = gClass g) := Lib.hid (by rw [← hr]; simp [classIn, he])
        clear hr hd hx he
        go_wp2_with fail
        go_ret
        exact ⟨by rw [← Z.out]; rfl, B.out⟩
      · have hq := bytes_beq_no he
        have Z : Hid (classIn g (glyphs.drop (k + 1)) = gClass g) := Lib.hid (by rw [← hr]; simp [classIn, he])
        clear hr hd hx he
        go_wp2_with fail
        go_round
        case rel => exact ⟨k + 1, by omega, by go_num, Z.out⟩
        case measure => simp [intOf]; omega
    · obtain rfl : k = 38 := by omega
      have Z : Hid (0 = gClass g) := Lib.hid (by rw [← hr, List.drop_of_length_le (by rw [glyphs_len]; exact Nat.le_refl _)]; rfl)
      clear hr
      go_wp2_with fail
      go_ret
      exact ⟨by rw [← Z.out]; rfl, B.out⟩

theorem empty_is {u : ByteArray} (h : u = ByteArray.empty) : u.toList.isEmpty = true := by
  subst h
  decide +kernel
theorem empty_not {u : ByteArray} (h : u ≠ ByteArray.empty) : u.toList.isEmpty = false := by
  cases hl : u.toList with
  | cons y l => rfl
  | nil =>
    exfalso
    apply h
    obtain ⟨⟨l⟩⟩ := u
    rw [ByteArray.toList_eq] at hl
    simp at hl
    subst hl
    rfl

set_option maxRecDepth 100000 in
set_option maxHeartbeats 4000000 in
theorem gfirst_any (s : ByteArray) (w : World) (hs : s.size ≤ maxLen) :
    Calls Tryd.prog 22 #[.string s] w fun r w' => r = .returned (.tuple #[.string (gFirst s).1, .int .i64 (gFirst s).2]) ∧ Below w.heap.size w w' := by
  have T := Lib.hid table_any
  have BG := Lib.hid (fun t u ht => begins_any s t u hs ht)
  go_enter Tryd.func22, Tryd.ntmps22
  go_wp2_with fail
  refine (T.out _).mono ?_
  rintro r w1 ⟨rfl, hT, hb⟩
  have HT := Lib.hid hT
  have B := Lib.hid hb
  clear hT hb T
  go_wp2_with fail
  go_loop [5] (fun i => ∃ k : Nat, k ≤ 38 ∧ i = .int .i64 k ∧ firstIn s (glyphs.drop k) = gFirst s) (fun i => 38 - (intOf i).toNat)
  case atStart => exact ⟨0, by omega, rfl, rfl⟩
  case round =>
    obtain ⟨k, hk, rfl, hr⟩ := hrel
    by_cases hlt : k < 38
    · obtain ⟨x, hx, hd⟩ := glyphs_at hlt
      obtain ⟨z1, z2⟩ := glyphs_size hx
      obtain ⟨c1, c2, c3⟩ := HT.out k x hx
      rw [hd] at hr
      have l1 := cell_lt c1
      have B1 := Lib.hid (BG.out x.glyph w1 (by unfold maxLen; omega))
      have hts : (tick x.letter).size ≤ maxLen := by
        have h1 : (⟨#[96]⟩ : ByteArray).size = 1 := rfl
        unfold tick
        rw [ByteArray.size_append, h1]
        unfold maxLen
        omega
      have B2 := Lib.hid (BG.out (tick x.letter) w1 hts)
      clear hts
      unfold tick at B2
      clear BG hd hx
      cases h1 : begins s x.glyph with
      | true =>
        have Z : Hid ((x.glyph, x.glyph.size) = gFirst s) := Lib.hid (by rw [← hr]; simp [firstIn, h1])
        rw [h1] at B1
        clear hr h1 B2
        go_wp2_with fail
        refine B1.out.mono ?_
        rintro r w' ⟨rfl, rfl⟩
        go_wp2_with fail
        go_quiet (fail)
        go_wp2_with fail
        go_ret2
        exact ⟨by rw [← Z.out]; rfl, below_drewN B.out _⟩
      | false =>
        rw [h1] at B1
        by_cases h2 : x.letter = ByteArray.empty
        · have Z : Hid (firstIn s (glyphs.drop (k + 1)) = gFirst s) := Lib.hid (by rw [← hr]; simp [firstIn, h1, h2])
          have q := empty_is h2
          clear hr h1 h2 B2
          go_wp2_with fail
          refine B1.out.mono ?_
          rintro r w' ⟨rfl, rfl⟩
          go_wp2_with fail
          go_round
          case rel => exact ⟨k + 1, by omega, by go_num, Z.out⟩
          case measure => simp [intOf]; omega
        · have q := empty_not h2
          cases h3 : begins s (⟨#[96]⟩ ++ x.letter) with
          | true =>
            have Z : Hid ((x.glyph, 2) = gFirst s) := Lib.hid (by rw [← hr]; simp [firstIn, h1, h2, tick, h3])
            rw [h3] at B2
            clear hr h1 h2 h3
            go_wp2_with fail
            refine B1.out.mono ?_
            rintro r w' ⟨rfl, rfl⟩
            go_wp2_with fail
            refine B2.out.mono ?_
            rintro r w' ⟨rfl, rfl⟩
            go_wp2_with fail
            go_ret2
            exact ⟨by rw [← Z.out]; rfl, B.out⟩
          | false =>
            have Z : Hid (firstIn s (glyphs.drop (k + 1)) = gFirst s) := Lib.hid (by rw [← hr]; simp [firstIn, h1, h2, tick, h3])
            rw [h3] at B2
            clear hr h1 h2 h3
            go_wp2_with fail
            refine B1.out.mono ?_
            rintro r w' ⟨rfl, rfl⟩
            go_wp2_with fail
            refine B2.out.mono ?_
            rintro r w' ⟨rfl, rfl⟩
            go_wp2_with fail
            go_round
            case rel => exact ⟨k + 1, by omega, by go_num, Z.out⟩
            case measure => simp [intOf]; omega
    · obtain rfl : k = 38 := by omega
      have Z : Hid ((ByteArray.empty, 0) = gFirst s) := Lib.hid (by rw [← hr, List.drop_of_length_le (by rw [glyphs_len]; exact Nat.le_refl _)]; rfl)
      clear hr
      go_wp2_with fail
      go_ret2
      exact ⟨by rw [← Z.out]; rfl, B.out⟩
end Go.Proofs.YtlokkdbgihbnhabDoor
