/-
  The walks of the reference's 'Plain', of 'IsName'.
-/
import Derived.Test.YteojnejomgomjaaDoorProg
import Derived.Test.YteojnejomgomjaaDoorReg
import Derived.WalkKit
import Derived.WalkSpells
import Derived.WalkLawsBesides
import Derived.Lib.Hide
import Derived.Lib.MinMax
import Derived.Deep.QuietTactic
import Derived.BigQuiet
import Derived.OwnWalk
import Derived.Deep.AppendLies
import Derived.KernelRfl
import Derived.Test.YteojnejomgomjaaDoorLxPn
import Derived.Test.YteojnejomgomjaaDoorLxSm
set_option linter.unusedSimpArgs false
set_option linter.unusedVariables false
namespace Go.Proofs.YteojnejomgomjaaDoor
open Go.RowKit Go.Maps

set_option maxRecDepth 100000 in
set_option maxHeartbeats 8000000 in
theorem refPlain_any (l : List Tok) (A : Option Addr) (c : Nat) (w : World) (hl : l.length ≤ 100000) (hA : HoldsT w A l) :
    Calls Tryd.prog 20 #[.slice A l.length c] w fun e w' => ∃ v, e = .returned v ∧ w'.ownsRow w.heap.size tK 3 v (plainT l).length (tokCells (plainT l)) ∧ Below w.heap.size w w' := by
  have HA := Lib.hid hA
  clear hA
  go_enter Tryd.func20, Tryd.ntmps20
  go_wp2_with fail
  go_loopw [3, 4] (fun v i wr => ∃ (k : Nat) (L : List Tok), i = .int .i64 k ∧ k ≤ l.length ∧ Hid (L = plainT (l.take k)) ∧ Hid (wr.ownsRow w.heap.size tK 3 v L.length (tokCells L)) ∧ Hid (Below w.heap.size w wr)) (fun _ i _ => l.length - (intOf i).toNat)
  case atStart => exact ⟨0, [], rfl, Nat.zero_le _, Lib.hid rfl, Lib.hid (World.ownsRow_nil _ _ _ _), Lib.hid (Below.refl _ _)⟩
  case round =>
    obtain ⟨k, L, rfl, hk, HL, HO, HB⟩ := hrel
    by_cases hlt : k < l.length
    · have ga := List.getElem?_eq_getElem (l := l) (i := k) hlt
      have hsn := plainT_snoc ga
      generalize l[k]'hlt = x at *
      have hLl : L.length ≤ 100000 := by
        have h1 := plain_len (l.take k)
        rw [HL.out, List.length_take] at *
        omega
      have HSN := Lib.hid hsn
      obtain ⟨b, off, rfl, d0, d1, d2⟩ := (HA.out.below HB.out) k x ga
      have hsz := HB.out.size
      clear ga hsn
      have lb := cell_lt d0
      simp only at lb
      have hB1 : Below wr.heap.size wr (wr.alloc (.cells #[.int .i64 x.kind, .string x.text, .string x.glyph] tK)) := below_new wr _
      obtain ⟨A5, c5, rfl, _, _, _⟩ := holdsT_of_own HO.out
      rcases plain_ways x with ⟨hp, q1⟩ | ⟨hp, q1, q2⟩ | ⟨hp, q1, q2⟩
      · have HL2 : Hid (L = plainT (l.take (k + 1))) := Lib.hid (by rw [HSN.out, hp, if_neg (by simp), List.append_nil]; exact HL.out)
        have HO2 := Lib.hid HO.out
        have HB2 := Lib.hid HB.out
        clear hp HSN hB1
        go_wp2_with fail
        go_roundw
        case rel => exact ⟨k + 1, L, by go_num, by omega, HL2, HO2, HB2⟩
        case measure => simp [intOf]; omega
      · have HL2 : Hid (L = plainT (l.take (k + 1))) := Lib.hid (by rw [HSN.out, hp, if_neg (by simp), List.append_nil]; exact HL.out)
        have HO2 := Lib.hid HO.out
        have HB2 := Lib.hid HB.out
        clear hp HSN hB1
        go_wp2_with fail
        go_roundw
        case rel => exact ⟨k + 1, L, by go_num, by omega, HL2, HO2, HB2⟩
        case measure => simp [intOf]; omega
      · have HL2 : Hid (L ++ [x] = plainT (l.take (k + 1))) := Lib.hid (by rw [HSN.out, hp, if_pos rfl, ← HL.out])
        have hO2 := own_below HO.out hB1
        obtain ⟨A9, c9, w9, hrun, hN9, hgr9, _⟩ := push_tok (x := x) (g := wr.heap.size) (heap_alloc_new wr _) hO2 (by omega) (by simp; omega)
        have HN9 := Lib.hid hN9
        have HB9 := Lib.hid ((HB.out.trans (hB1.mono hsz)).grown hgr9 (by simp; omega) (fun kk e => ownBlock_ge HO.out kk e))
        clear hp HSN hB1 hO2 hN9 hgr9
        go_wp2_with (at_builtin; go_must (refine wpList_append_run rfl _ _ 23 23 rfl rfl rfl hrun ?_))
        go_roundw
        case rel => exact ⟨k + 1, _, by go_num, by omega, HL2, HN9, HB9⟩
        case measure => simp [intOf]; omega
    · obtain rfl : k = l.length := by omega
      have HL2 : Hid (L = plainT l) := Lib.hid (by rw [HL.out, List.take_of_length_le (Nat.le_refl _)])
      go_wp2_with fail
      go_ret
      exact ⟨_, rfl, by rw [← HL2.out]; exact HO.out, HB.out⟩

theorem noText_list : noText.toList = [] := by unfold noText; rw [ByteArray.toList_eq]; rfl
def isNameT (s : ByteArray) : Bool := decide (0 < s.size) && decide (dFirst s = ⟨5, s, noText⟩)

set_option maxRecDepth 100000 in
set_option maxHeartbeats 8000000 in
theorem IsName_any (s : ByteArray) (w : World) (hs : s.size ≤ 1000000) (hT : Tabs w) :
    Calls Tryd.prog 12 #[.string s] w fun e w' => e = .returned (.bool (isNameT s)) ∧ Below w.heap.size w w' := by
  by_cases h0 : s.size = 0
  · obtain rfl : s = ByteArray.empty := ByteArray.size_eq_zero_iff.1 h0
    have HF := First_none w
    unfold Tok.val noTok at HF
    have HF := Lib.hid HF
    have HE : Hid (isNameT ByteArray.empty = false) := Lib.hid rfl
    clear hT h0
    go_enter Tryd.func12, Tryd.ntmps12
    go_wp2_with fail
    refine HF.out.mono ?_
    rintro e w2 ⟨rfl, hb2⟩
    go_wp2_with fail
    go_ret
    exact ⟨by rw [HE.out]; rfl, hb2.alloc hb2.size _⟩
  · have h1 : 0 < s.size := by omega
    have HF := First_some s w h1 hs hT
    unfold Tok.val at HF
    have HF := Lib.hid HF
    have HE : Hid (isNameT s = decide (dFirst s = ⟨5, s, noText⟩)) := Lib.hid (by unfold isNameT; simp [h1])
    generalize dFirst s = x at *
    clear hT h0
    rcases tok_ways x ⟨5, s, noText⟩ with hxy | ⟨hne, q0⟩ | ⟨hne, q0, q1⟩ | ⟨hne, q0, q1, q2⟩
    · have HE2 : Hid (isNameT s = true) := Lib.hid (by rw [HE.out]; simpa using hxy)
      subst hxy
      have q1 := bytes_beq_yes (rfl : s = s)
      clear HE
      unfold noText at HF
      go_enter Tryd.func12, Tryd.ntmps12
      go_wp2_with fail
      refine HF.out.mono ?_
      rintro e w2 ⟨rfl, hb2⟩
      go_wp2_with fail
      go_ret
      exact ⟨by rw [HE2.out]; rfl, hb2.alloc hb2.size _⟩
    all_goals
      have HE2 : Hid (isNameT s = false) := Lib.hid (by rw [HE.out]; simpa using hne)
      simp only at q0
      try simp only at q1
      try simp only [noText_list] at q2
      clear HE hne
      go_enter Tryd.func12, Tryd.ntmps12
      go_wp2_with fail
      refine HF.out.mono ?_
      rintro e w2 ⟨rfl, hb2⟩
      go_wp2_with fail
      go_ret
      exact ⟨by rw [HE2.out]; rfl, hb2.alloc hb2.size _⟩
end Go.Proofs.YteojnejomgomjaaDoor
