/-
  The bodies of whole frames, one by one: the iterator.
-/
import Derived.Test.YtjlehlkkgkplmaaDoorProg
import Derived.Test.YtjlehlkkgkplmaaDoorReg
import Derived.WalkKit
import Derived.WalkSpells
import Derived.WalkLawsBesides
import Derived.Lib.Hide
import Derived.Lib.MinMax
import Derived.Deep.QuietTactic
import Derived.BigQuiet
import Derived.OwnWalk
import Derived.Deep.AppendLies
import Derived.KernelRfl
import Derived.RangeFuncNested
import Derived.RangeFuncBound
import Derived.RangeFuncCalls
import Derived.RangeFuncLeaves
import Derived.RangeFuncBox
import Derived.OwnWalkIn
import Derived.TacticsInMore
import Derived.LoopNIn
import Derived.LoopIn
import Derived.Deep.RegionLaw
import Derived.Deep.Cut
import Derived.Test.YtjlehlkkgkplmaaDoorRegIn
import Derived.Test.YtjlehlkkgkplmaaDoorFrH
set_option linter.unusedSimpArgs false
set_option linter.unusedVariables false
namespace Go.Proofs.YtjlehlkkgkplmaaDoor
open Go.RowKit Go.Maps

attribute [local go_sem] Oper.semAt_some

/-- A stream's bodies, what is left, is it wrong? -/
def splitB (s : ByteArray) : List ByteArray × ByteArray × Bool :=
  let r := splitS s.data.toList
  (r.1.map (fun x => ⟨x.toArray⟩), ⟨r.2.1.toArray⟩, r.2.2)
theorem splitB_end (s : ByteArray) (h : (frPair s).2.1 = false) : splitB s = ([], (frPair s).2.2.1, (frPair s).2.2.2) := by
  unfold frPair at h ⊢
  unfold splitB
  rw [splitS_eq]
  cases hf : frOf s.data.toList with
  | more => rfl
  | bad => rfl
  | got a n => rw [hf] at h; cases h
theorem splitB_step (s : ByteArray) (h : (frPair s).2.1 = true) : splitB s = ((frPair s).1 :: (splitB (frPair s).2.2.1).1, (splitB (frPair s).2.2.1).2) ∧ (frPair s).2.2.2 = false ∧ (frPair s).2.2.1.size < s.size := by
  unfold frPair at h ⊢
  cases hf : frOf s.data.toList with
  | more => rw [hf] at h; cases h
  | bad => rw [hf] at h; cases h
  | got a n =>
    obtain ⟨_, h1, h2⟩ := frOf_got (b := []) hf
    have hz : s.data.toList.length = s.size := rfl
    have e1 : (⟨((s.data.toList.drop a).take n).toArray⟩ : ByteArray) = s.extract a (a + n) := text_inj (by rw [extract_data _ _ _ (by omega), Nat.add_sub_cancel_left])
    have e2 : (s.extract (a + n) s.size).data.toList = s.data.toList.drop (a + n) := by rw [extract_data _ _ _ (by omega), List.take_of_length_le (by rw [List.length_drop, hz]; omega)]
    refine ⟨?_, rfl, ?_⟩
    · simp only
      unfold splitB
      rw [splitS_eq, hf, e2]
      simp only [List.map_cons, e1]
    · simp only [ByteArray.size_extract]
      omega

theorem frames_any (X : Nat) (w : World) :
    Calls Tryd.prog 30 #[.pointer (some ⟨X, 0, none⟩)] w fun e w' => e = .returned (.func (.func 36) #[] #[.pointer (some ⟨w.heap.size, 0, none⟩)]) ∧ w' = w.alloc (.cells #[.pointer (some ⟨X, 0, none⟩)] 50) := by
  go_enter Tryd.func30, Tryd.ntmps30
  go_wp2_with fail
  go_ret
  exact ⟨rfl, rfl⟩

/-- How much is left. -/
def leftIn (X : Nat) (W : World) : Nat := match W.cell? ⟨X, 0, none⟩ with
  | some (.string r) => r.size
  | _ => 0
theorem leftIn_of {X : Nat} {W : World} {r : ByteArray} (h : W.cell? ⟨X, 0, none⟩ = some (.string r)) : leftIn X W = r.size := by
  unfold leftIn
  rw [h]

set_option maxRecDepth 100000 in
set_option maxHeartbeats 8000000 in
theorem frames1_any (n : Nat) (L sb X : Nat) (T : TypeId) (a : Addr) (s : ByteArray) (J : List ByteArray → World → Prop) (W : World) (hs : s.size ≤ 1000000) (hX : IsLf W X T a s false) (h0 : J [] W)
    (hst : ∀ pre W1 W2, J pre W1 → W1.grownBy W2 (some X) → J pre W2)
    (hJ : ∀ pre W1, J pre W1 → LaidF a W1 ∧ W1.heap[sb]? = some (.cells #[.pointer (some ⟨X, 0, none⟩)] 50 (0, 0)))
    (hY : ∀ (pre : List ByteArray) (x : ByteArray) (W0 W1 : World), J pre W0 → pre.length < (splitB s).1.length → W.heap.size ≤ W0.heap.size → W0.grownBy W1 (some X) → YieldAt Fence.wide n Tryd.prog L #[.string x] W1 fun e W' =>
      e = .returned (.bool true) ∧ J (pre ++ [x]) W' ∧ W'.heap[X]? = W1.heap[X]? ∧ W1.heap.size ≤ W'.heap.size) :
    Calls Tryd.prog 36 #[.func (.yield L) #[] #[], .pointer (some ⟨sb, 0, none⟩)] W fun e W' => (∃ v, e = .returned v) ∧ J (splitB s).1 W' ∧ IsLf W' X T a (splitB s).2.1 (splitB s).2.2 := by
  have HY := Lib.hid hY
  have HST := Lib.hid hst
  have HJJ := Lib.hid hJ
  have H0 := Lib.hid h0
  have HX0 := Lib.hid hX
  clear hY hst hJ h0 hX
  generalize hn : W.heap.size = n0 at *
  go_enter Tryd.func36, Tryd.ntmps36
  go_wp2_with fail
  go_step3
  go_wp2_with fail
  go_step3
  go_wp2_with fail
  go_loopw [] (fun wr => ∃ (r : ByteArray) (pre : List ByteArray), Hid (IsLf wr X T a r false) ∧ Hid (J pre wr) ∧ Hid (pre ++ (splitB r).1 = (splitB s).1 ∧ (splitB r).2 = (splitB s).2) ∧ r.size ≤ 1000000 ∧ n0 ≤ wr.heap.size) (fun wr => leftIn X wr)
  case atStart => exact ⟨s, [], HX0, H0, Lib.hid ⟨rfl, rfl⟩, hs, by omega⟩
  case round =>
    obtain ⟨r, pre, HR, HJ, HP, hr, hz⟩ := hrel
    obtain ⟨hL, hsb⟩ := HJJ.out _ _ HJ.out
    have cr : wr.cell? ⟨sb, 0, none⟩ = some (.pointer (some ⟨X, 0, none⟩)) := by simp [World.cell?, hsb]
    have HF := Lib.hid (frame_any X T a r wr hr HR.out hL)
    clear hL hsb
    cases h0 : (frPair r).2.1 with
    | false =>
      have hE := splitB_end r h0
      have HE : Hid (pre = (splitB s).1 ∧ (splitB s).2.1 = (frPair r).2.2.1 ∧ (splitB s).2.2 = (frPair r).2.2.2) := Lib.hid (by
        obtain ⟨h1, h2⟩ := HP.out
        rw [hE] at h1 h2
        rw [List.append_nil] at h1
        exact ⟨h1, by rw [← h2], by rw [← h2]⟩)
      rw [h0] at HF
      clear hE h0
      go_wp2_with fail
      refine HF.out.mono ?_
      rintro e w2 ⟨rfl, hg2, hx2⟩
      have HJ2 := Lib.hid (HST.out _ _ _ HJ.out hg2)
      have HX2 := Lib.hid hx2
      clear HF hg2 hx2 HR HJ HP cr
      go_wp2_with fail
      try rw [Exit.noGoto_normal]
      go_end0
      obtain ⟨e1, e2, e3⟩ := HE.out
      rw [e2, e3, ← e1]
      exact ⟨⟨_, rfl⟩, HJ2.out, HX2.out⟩
    | true =>
      obtain ⟨hE, hfalse, hsm⟩ := splitB_step r h0
      rw [h0, hfalse] at HF
      have HP2 : Hid ((pre ++ [(frPair r).1]) ++ (splitB (frPair r).2.2.1).1 = (splitB s).1 ∧ (splitB (frPair r).2.2.1).2 = (splitB s).2) := Lib.hid (by
        obtain ⟨h1, h2⟩ := HP.out
        rw [hE] at h1 h2
        exact ⟨by rw [← h1]; simp, h2⟩)
      have HM0 := Lib.hid (leftIn_of HR.out.c0)
      have HSm := Lib.hid hsm
      generalize (frPair r).2.2.1 = r2 at *
      generalize (frPair r).1 = x at *
      clear hE hfalse h0 hsm
      go_wp2_with fail
      refine HF.out.mono ?_
      rintro e w2 ⟨rfl, hg2, hx2⟩
      have HX2 := Lib.hid hx2
      obtain ⟨fn, tmps, assign, body, hy, hRd⟩ := HY.out pre x wr w2 HJ.out (by rw [← HP2.out.1]; simp) hz hg2
      have HRo := Lib.hid hRd
      have HG2 := Lib.hid hg2
      clear hRd hx2 HF hg2 cr
      go_upto_region 1 with fail
      refine (wpIn_wide (n := n + 1)).1 ?_
      gi_wp2_with fail
      refine HRo.out.mono ?_
      rintro e w4 ⟨rfl, hJ4, hs4, hz34⟩
      have HX4 : Hid (IsLf w4 X T a r2 false) := Lib.hid (hs4.trans HX2.out)
      have HJ4 := Lib.hid hJ4
      have hz4 : n0 ≤ w4.heap.size := by have := HG2.out.size; omega
      have HM : Hid (leftIn X w4 < leftIn X wr) := Lib.hid (by rw [leftIn_of HX4.out.c0, HM0.out]; exact HSm.out)
      have hr2 : r2.size ≤ 1000000 := by have := HSm.out; omega
      clear hs4 hJ4
      gi_wp2_with fail
      go_wp2_with fail
      go_roundw
      case rel => exact ⟨r2, _, HX4, HJ4, HP2, hr2, hz4⟩
      case measure => exact HM.out
end Go.Proofs.YtjlehlkkgkplmaaDoor
