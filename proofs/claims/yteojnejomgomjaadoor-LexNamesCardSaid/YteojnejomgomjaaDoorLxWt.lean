/-
  The walks of 'Text', of both.
-/
import Derived.Test.YteojnejomgomjaaDoorProg
import Derived.Test.YteojnejomgomjaaDoorReg
import Derived.WalkKit
import Derived.WalkSpells
import Derived.WalkLawsBesides
import Derived.Lib.Hide
import Derived.Lib.MinMax
import Derived.Deep.QuietTactic
import Derived.BigQuiet
import Derived.OwnWalk
import Derived.Deep.AppendLies
import Derived.KernelRfl
import Derived.Test.YteojnejomgomjaaDoorLxBu
import Derived.Test.YteojnejomgomjaaDoorLxLn
set_option linter.unusedSimpArgs false
set_option linter.unusedVariables false
namespace Go.Proofs.YteojnejomgomjaaDoor
open Go.RowKit Go.Maps

theorem textOf_snoc {l : List Tok} {k : Nat} {x : Tok} (h : l[k]? = some x) : textOf (l.take (k + 1)) = textOf (l.take k) ++ x.text := by
  rw [take_one h]
  unfold textOf
  rw [List.foldl_append]
  rfl
theorem textOf_le (l : List Tok) (k : Nat) : (textOf (l.take k)).size ≤ (textOf l).size := by
  have h : textOf l = textOf (l.take k) ++ textOf (l.drop k) := by
    conv => lhs; rw [← List.take_append_drop k l]
    unfold textOf
    rw [List.foldl_append]
    exact textOf_from _ _
  rw [h, ByteArray.size_append]
  omega

set_option maxRecDepth 100000 in
set_option maxHeartbeats 4000000 in
theorem refText_any (l : List Tok) (A : Option Addr) (c : Nat) (w : World) (hl : l.length ≤ 100000) (hz : (textOf l).size ≤ 1000000) (hA : HoldsT w A l) :
    Calls Tryd.prog 18 #[.slice A l.length c] w fun e w' => e = .returned (.string (textOf l)) ∧ w' = w := by
  have HA := Lib.hid hA
  have HZ := Lib.hid (textOf_le l)
  clear hA
  go_enter Tryd.func18, Tryd.ntmps18
  go_wp2_with fail
  go_loop [3, 4] (fun v i => ∃ (k : Nat) (t : ByteArray), i = .int .i64 k ∧ v = .string t ∧ k ≤ l.length ∧ Hid (t = textOf (l.take k))) (fun _ i => l.length - (intOf i).toNat)
  case atStart => exact ⟨0, _, rfl, rfl, Nat.zero_le _, Lib.hid rfl⟩
  case round =>
    obtain ⟨k, t, rfl, rfl, hk, HT⟩ := hrel
    by_cases hlt : k < l.length
    · have ga := List.getElem?_eq_getElem (l := l) (i := k) hlt
      have HS := Lib.hid (textOf_snoc ga)
      have h1 := HZ.out (k + 1)
      rw [HS.out, ← HT.out, ByteArray.size_append] at h1
      generalize l[k]'hlt = x at *
      obtain ⟨b, off, rfl, d0, d1, d2⟩ := HA.out k x ga
      have HT2 : Hid (t ++ x.text = textOf (l.take (k + 1))) := Lib.hid (by rw [HS.out, ← HT.out])
      clear ga
      go_wp2_with fail
      go_round
      case rel => exact ⟨k + 1, _, by go_num, rfl, by omega, HT2⟩
      case measure => simp [intOf]; omega
    · obtain rfl : k = l.length := by omega
      have HT2 : Hid (t = textOf l) := Lib.hid (by rw [HT.out, List.take_of_length_le (Nat.le_refl _)])
      go_wp2_with fail
      go_ret
      exact ⟨by rw [← HT2.out]; rfl, rfl⟩

theorem builder_below {w w' : World} {B b : Nat} {bs : List Value} (h : Lib.IsBuilderF tB tU B b bs w) (hb : Below w.heap.size w w') : Lib.IsBuilderF tB tU B b bs w' := by
  have hx : ∀ p, Lib.BuilderAtF tB tU B b p bs w → Lib.BuilderAtF tB tU B b p bs w' := by
    rintro p ⟨hB, v, hb', hown, hne⟩
    refine ⟨hB, v, (hb.block b (Array.getElem?_eq_some_iff.1 hb').1).trans hb', ?_, hne⟩
    refine ⟨hown.1, ?_⟩
    rcases hown.2 with h1 | ⟨g, cap, cur, fz, h1, h2, h3, h4⟩
    · exact .inl h1
    · exact .inr ⟨g, cap, cur, fz, h1, h2, (hb.block g (Array.getElem?_eq_some_iff.1 h3).1).trans h3, h4⟩
  exact h.elim (fun h => .inl (hx _ h)) (fun h => .inr (hx _ h))

set_option maxRecDepth 100000 in
set_option maxHeartbeats 8000000 in
theorem Text_any (l : List Tok) (A : Option Addr) (c : Nat) (w : World) (hl : l.length ≤ 100000) (hz : (textOf l).size ≤ 1000000) (hA : HoldsT w A l) :
    Calls Tryd.prog 17 #[.slice A l.length c] w fun e w' => e = .returned (.string (textOf l)) ∧ Below w.heap.size w w' := by
  have HA := Lib.hid hA
  have HZ := Lib.hid (textOf_le l)
  have hB0 := below_new w (.cells #[.pointer none, .slice none 0 0] tB)
  have hX0 := heap_alloc_new w (.cells #[.pointer none, .slice none 0 0] tB)
  have HI0 : Hid (Lib.IsBuilderF tB tU w.heap.size w.heap.size (Lib.byteCells (textOf (l.take 0)).data.toList) (w.alloc (.cells #[.pointer none, .slice none 0 0] tB))) := Lib.hid (.inl ⟨Nat.le_refl _, _, hX0, ⟨rfl, .inl ⟨rfl, rfl⟩⟩, by simp [Value.ownBlock]⟩)
  clear hA hX0
  go_enter Tryd.func17, Tryd.ntmps17
  go_wp2_with fail
  generalize w.alloc (.cells #[.pointer none, .slice none 0 0] 45) = w0 at *
  go_loopw [8] (fun i wr => ∃ (k : Nat), i = .int .i64 k ∧ k ≤ l.length ∧ Hid (Lib.IsBuilderF tB tU w.heap.size w.heap.size (Lib.byteCells (textOf (l.take k)).data.toList) wr) ∧ Hid (Below w.heap.size w wr)) (fun i _ => l.length - (intOf i).toNat)
  case atStart => exact ⟨0, rfl, Nat.zero_le _, HI0, Lib.hid hB0⟩
  case round =>
    obtain ⟨k, rfl, hk, HI, HB⟩ := hrel
    by_cases hlt : k < l.length
    · have ga := List.getElem?_eq_getElem (l := l) (i := k) hlt
      have HS := Lib.hid (textOf_snoc ga)
      have h1 := HZ.out (k + 1)
      rw [HS.out, ByteArray.size_append] at h1
      generalize l[k]'hlt = x at *
      obtain ⟨b, off, rfl, d0, d1, d2⟩ := (HA.out.below HB.out) k x ga
      have hsz := HB.out.size
      have HW := Lib.hid (writeString_any w.heap.size w.heap.size _ x.text _ (builder_below HI.out (below_new wr (.cells #[.int .i64 x.kind, .string x.text, .string x.glyph] tK))) (by rw [Lib.byteCells_length, bytes_len]; omega) (by simp; omega))
      have HB1 := Lib.hid (HB.out.alloc hsz (.cells #[.int .i64 x.kind, .string x.text, .string x.glyph] tK))
      clear ga
      go_wp2_with fail
      refine HW.out.mono ?_
      rintro e w2 ⟨rfl, hbu, hb2, _⟩
      have HB2 := Lib.hid (HB1.out.trans hb2)
      have HI2 : Hid (Lib.IsBuilderF tB tU w.heap.size w.heap.size (Lib.byteCells (textOf (l.take (k + 1))).data.toList) w2) := Lib.hid (by
        rw [HS.out, bytes_app]
        have := hbu
        rw [Lib.strCells_eq, ← Lib.byteCells_append] at this
        exact .inr this)
      clear HW hbu hb2 HI
      go_wp2_with fail
      go_roundw
      case rel => exact ⟨k + 1, by go_num, by omega, HI2, HB2⟩
      case measure => simp [intOf]; omega
    · obtain rfl : k = l.length := by omega
      have hI := HI.out
      rw [List.take_of_length_le (Nat.le_refl _)] at hI
      have HS := Lib.hid (Lay_Builder_String_any_f w.heap.size w.heap.size _ wr hI HB.out.size)
      go_wp2_with fail
      refine HS.out.mono ?_
      rintro e w2 ⟨rfl, _, hb2⟩
      have HB2 := Lib.hid (HB.out.trans hb2)
      go_wp2_with fail
      go_ret
      exact ⟨rfl, HB2.out⟩
end Go.Proofs.YteojnejomgomjaaDoor
