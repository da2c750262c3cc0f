/-
  A text's runes one by one: the iterator.
-/
import Derived.Test.YtamclieppbnpiabGreatDoorProg
import Derived.Test.YtamclieppbnpiabGreatDoorReg
import Derived.WalkKit
import Derived.WalkSpells
import Derived.WalkLawsBesides
import Derived.Lib.Hide
import Derived.Lib.MinMax
import Derived.Deep.QuietTactic
import Derived.BigQuiet
import Derived.OwnWalk
import Derived.Deep.AppendLies
import Derived.KernelRfl
import Derived.RangeFuncNested
import Derived.RangeFuncBound
import Derived.RangeFuncCalls
import Derived.RangeFuncLeaves
import Derived.RangeFuncBox
import Derived.OwnWalkIn
import Derived.TacticsInMore
import Derived.LoopNIn
import Derived.LoopIn
import Derived.Deep.RegionLaw
import Derived.Deep.Cut
import Derived.Test.YtamclieppbnpiabGreatDoorRegIn
import Derived.Test.YtamclieppbnpiabGreatDoorRegZ
import Derived.Test.YtamclieppbnpiabGreatDoorJoint2
import Derived.Test.YtamclieppbnpiabGreatDoorJw10
import Derived.Laws.RangeAny
import Derived.Test.YtamclieppbnpiabGreatDoorJw6
import Derived.Test.YtamclieppbnpiabGreatDoorJw7
set_option linter.unusedSimpArgs false
set_option linter.unusedVariables false
namespace Go.Proofs.YtamclieppbnpiabGreatDoor
open Go Go.RowKit Go.Maps


attribute [local go_sem] Oper.semAt_some

/-! ### A text's steps, plainly -/
def badR (l : List UInt8) : Prop := (Lib.decodeL l).1 < 32 ∨ ((Lib.decodeL l).1 = 65533 ∧ (Lib.decodeL l).2 < 2)
instance (l : List UInt8) : Decidable (badR l) := by unfold badR; infer_instance
theorem dec_pos {c : UInt8} {r : List UInt8} : 1 ≤ (Lib.decodeL (c :: r)).2 ∧ (Lib.decodeL (c :: r)).2 ≤ (c :: r).length := ⟨Lib.decodeL_width _, Lib.decodeL_le _ (by simp)⟩
theorem bad_iff {c : UInt8} {r : List UInt8} : badR (c :: r) ↔ (c.toNat < 32 ∨ (128 ≤ c.toNat ∧ (Lib.decodeL (c :: r)).2 = 1)) := by
  have h1 := (dec_pos (c := c) (r := r)).1
  unfold badR
  by_cases hc : c.toNat < 128
  · have e : Lib.decodeL (c :: r) = (c.toNat, 1) := Lib.decodeL_ascii c r hc
    rw [e]
    constructor
    · rintro (h | ⟨h, _⟩)
      · exact .inl h
      · simp only at h; omega
    · rintro (h | ⟨h, _⟩)
      · exact .inl h
      · omega
  · have hw := fine_wide (c := c) (r := r) (by omega)
    unfold fineR at hw
    constructor
    · rintro (h | ⟨h, h2⟩)
      · exact absurd (small_head (c := c) (r := r) (by omega)) hc
      · exact .inr ⟨by omega, by omega⟩
    · rintro (h | ⟨_, h⟩)
      · omega
      · right
        have : ¬ ¬ ((Lib.decodeL (c :: r)).1 = 65533 ∧ (Lib.decodeL (c :: r)).2 = 1) := fun hh => (hw.1 hh) h
        have := Classical.not_not.1 this
        exact ⟨this.1, by omega⟩
theorem wg_bad {k : Nat} {acc : List UInt8} {c : UInt8} {r : List UInt8} (h : badR (c :: r)) : wordGo (k + 1) acc (c :: r) = .error 150 := by
  unfold wordGo
  simp only
  rw [if_pos (bad_iff.1 h)]
theorem wg_quote {k : Nat} {acc r : List UInt8} (h : ¬ badR (34 :: r)) : wordGo (k + 1) acc (34 :: r) = .ok (acc, r) := by
  unfold wordGo
  simp only
  rw [if_neg (fun hh => h (bad_iff.2 hh))]
  simp
theorem wg_esc {k : Nat} {acc r : List UInt8} (h : ¬ badR (92 :: r)) : wordGo (k + 1) acc (92 :: r) = (match escapeL r with | .error e => .error e | .ok (t, q) => wordGo k (acc ++ t) q) := by
  conv => lhs; unfold wordGo
  simp only
  rw [if_neg (fun hh => h (bad_iff.2 hh))]
  simp
  rfl
theorem wg_else {k : Nat} {acc r : List UInt8} {c : UInt8} (h : ¬ badR (c :: r)) (h1 : c ≠ 34) (h2 : c ≠ 92) : wordGo (k + 1) acc (c :: r) = wordGo k (acc ++ (c :: r).take (Lib.decodeL (c :: r)).2) ((c :: r).drop (Lib.decodeL (c :: r)).2) := by
  conv => lhs; unfold wordGo
  simp only
  rw [if_neg (fun hh => h (bad_iff.2 hh)), if_neg h1, if_neg h2]

/-! ### The iterator -/
theorem runes_any (R : Nat) (w : World) :
    Calls Tryz.prog 79 #[.pointer (some ⟨R, 0, none⟩)] w fun e w' => e = .returned (.func (.func 92) #[] #[.pointer (some ⟨w.heap.size, 0, none⟩)]) ∧ w' = w.alloc (.cells #[.pointer (some ⟨R, 0, none⟩)] 47) := by
  go_enter Tryz.func79, Tryz.ntmps79
  go_wp2_with fail
  go_ret
  exact ⟨rfl, rfl⟩
/-- What a text's iterator leaves. -/
def WordAt (a : Addr) (R : Nat) (nest : Int) (J : List UInt8 → World → Prop) (E : Except Int (List UInt8 × List UInt8)) (W : World) : Prop :=
  match E with
  | .ok (t, q) => J t W ∧ RdAt W R q nest .nilIface
  | .error c => ∃ t q, J t W ∧ RdAt W R q nest (errV a c)
/-- How many rounds there can still be. -/
def restR (R : Nat) (W : World) : Nat := match W.cell? ⟨R, 2, none⟩ with
  | some .nilIface => (match W.cell? ⟨R, 0, none⟩ with | some (.string r) => r.size + 1 | _ => 0)
  | _ => 0
theorem restR_nil {R : Nat} {W : World} {l : List UInt8} {n : Int} (h : RdAt W R l n .nilIface) : restR R W = l.length + 1 := by
  unfold restR
  rw [h.c2, h.c0]
  simp [bs_size]
theorem restR_err {a : Addr} {R : Nat} {W : World} {l : List UInt8} {n c : Int} (h : RdAt W R l n (errV a c)) : restR R W = 0 := by
  unfold restR
  rw [h.c2]
  rfl
/-- A text's place in its iterator. -/
def Where (a : Addr) (N : Nat) (E : Except Int (List UInt8 × List UInt8)) (pre l : List UInt8) (ev : Value) : Prop :=
  (ev = .nilIface ∧ pre.length + l.length ≤ N ∧ ∃ k, l.length < k ∧ wordGo k pre l = E) ∨ (∃ c, ev = errV a c ∧ E = .error c)

set_option maxRecDepth 100000 in
set_option maxHeartbeats 8000000 in
theorem runes1_any (n : Nat) (L sb R : Nat) (a : Addr) (l : List UInt8) (nest : Int) (J : List UInt8 → World → Prop) (W : World) (E : Except Int (List UInt8 × List UInt8)) (hE : wordL l = E) (hl : l.length ≤ 100000000) (hR : 9 ≤ R) (h : RdAt W R l nest .nilIface) (h0 : J [] W)
    (hst : ∀ pre W1 W2, J pre W1 → Lz.KeptBut W1.heap.size R W1 W2 → J pre W2) (hW : ∀ pre W1, J pre W1 → WJ a W1) (hbx : ∀ pre W1, J pre W1 → W1.heap[sb]? = some (.cells #[.pointer (some ⟨R, 0, none⟩)] 47 (0, 0)))
    (hY : ∀ (pre t : List UInt8) (W1 : World), J pre W1 → (pre ++ t).length ≤ l.length → YieldAt Fence.wide n Tryz.prog L #[.string (bs t)] W1 fun e W' => e = .returned (.bool true) ∧ J (pre ++ t) W' ∧ W'.heap[R]? = W1.heap[R]?) :
    Calls Tryz.prog 92 #[.func (.yield L) #[] #[], .pointer (some ⟨sb, 0, none⟩)] W fun e W' => (∃ v, e = .returned v) ∧ WordAt a R nest J E W' := by
  have HY := Lib.hid hY
  have HST := Lib.hid hst
  have HW := Lib.hid hW
  have HBX := Lib.hid hbx
  have H0 := Lib.hid h0
  have HR := Lib.hid h
  have HP0 : Hid (Where a l.length E [] l .nilIface) := Lib.hid (.inl ⟨rfl, by simp, l.length + 1, by omega, hE⟩)
  clear hY hst hW h0 hbx h hE
  go_enter Tryz.func92, Tryz.ntmps92
  go_wp2_with fail
  go_step3
  go_wp2_with fail
  go_step3
  go_wp2_with fail
  go_loopw [] (fun wr => ∃ (l1 pre : List UInt8) (ev : Value), Hid (RdAt wr R l1 nest ev) ∧ Hid (J pre wr) ∧ Hid (Where a l.length E pre l1 ev) ∧ pre.length ≤ l.length) (fun wr => restR R wr)
  case atStart => exact ⟨l, [], .nilIface, HR, H0, HP0, by simp⟩
  case round =>
    obtain ⟨l1, pre, ev, HR1, HJ1, HP1, hlen⟩ := hrel
    have HW1 := Lib.hid (HW.out _ _ HJ1.out)
    have HB1 := Lib.hid (HBX.out _ _ HJ1.out)
    have b0 : wr.cell? ⟨sb, 0, none⟩ = some (.pointer (some ⟨R, 0, none⟩)) := by have := HB1.out; simp [World.cell?, this]
    have c0 := HR1.out.c0
    have c2 := HR1.out.c2
    have lR := HR1.out.lt
    rcases HP1.out with ⟨rfl, hlen2, k, hk, hE⟩ | ⟨c, rfl, hE⟩
    · obtain ⟨k, rfl⟩ : ∃ k', k = k' + 1 := ⟨k - 1, by omega⟩
      cases l1 with
      | nil =>
        have HE : Hid (E = .error 150) := Lib.hid (by rw [← hE]; rfl)
        have HD := Lib.hid (Decode_none a wr HW1.out)
        clear hE HP1
        go_wp2_with fail
        refine HD.out.mono ?_
        rintro e w2 ⟨rfl, hb⟩
        have HR2 := Lib.hid (HR1.out.below hb)
        have HJ2 := Lib.hid (HST.out _ _ _ HJ1.out (but_below' hb))
        clear hb
        have HB2 := Lib.hid (HBX.out _ _ HJ2.out)
        have b2 : w2.cell? ⟨sb, 0, none⟩ = some (.pointer (some ⟨R, 0, none⟩)) := by have := HB2.out; simp [World.cell?, this]
        have c02 := HR2.out.c0
        have lR2 := HR2.out.lt
        have HFl := Lib.hid (fail_new a R 150 [] nest w2 HR2.out (HW.out _ _ HJ2.out))
        go_wp2_with fail
        refine HFl.out.mono ?_
        rintro e w3 ⟨rfl, hs⟩
        have HJ3 := Lib.hid (HST.out _ _ _ HJ2.out hs.2)
        have HR3 := Lib.hid hs.1
        clear hs
        go_wp2_with fail
        rw [Exit.noGoto_normal]
        go_end0
        rw [HE.out]
        exact ⟨⟨_, rfl⟩, _, _, HJ3.out, HR3.out⟩
      | cons c r =>
        have HD := Lib.hid (Decode_lib (c :: r) a wr (by simp) HW1.out)
        obtain ⟨hm1, hm2⟩ := dec_pos (c := c) (r := r)
        have hbad : badR (c :: r) ↔ ((Lib.decodeL (c :: r)).1 < 32 ∨ ((Lib.decodeL (c :: r)).1 = 65533 ∧ (Lib.decodeL (c :: r)).2 < 2)) := Iff.rfl
        obtain ⟨b, hb0⟩ : ∃ b, b = decide (badR (c :: r)) := ⟨_, rfl⟩
        have HG : Hid (¬ badR (c :: r) → c ≠ 34 → c ≠ 92 → wordGo k (pre ++ (c :: r).take (Lib.decodeL (c :: r)).2) ((c :: r).drop (Lib.decodeL (c :: r)).2) = E) := Lib.hid (fun h1 h2 h3 => (wg_else h1 h2 h3).symm.trans hE)
        have hsz : (bs (c :: r)).size = (c :: r).length := bs_size _
        have hx1 := bs_take (c :: r) (Lib.decodeL (c :: r)).2
        have hx2 := bs_drop (c :: r) (Lib.decodeL (c :: r)).2
        generalize (Lib.decodeL (c :: r)).1 = x at *
        generalize (Lib.decodeL (c :: r)).2 = m at *
        have HE0 := Lib.hid hE
        have HT1 := Lib.hid (fun n' ev' W' (h : RdAt W' R (c :: r) n' ev') => take_any R [34] (c :: r) n' ev' W' h)
        have HT2 := Lib.hid (fun n' ev' W' (h : RdAt W' R (c :: r) n' ev') => take_any R [92] (c :: r) n' ev' W' h)
        clear hE HP1
        go_wp2_with fail
        refine HD.out.mono ?_
        rintro e w2 ⟨rfl, hb⟩
        have HR2 := Lib.hid (HR1.out.below hb)
        have HJ2 := Lib.hid (HST.out _ _ _ HJ1.out (but_below' hb))
        clear hb
        have HB2 := Lib.hid (HBX.out _ _ HJ2.out)
        have b2 : w2.cell? ⟨sb, 0, none⟩ = some (.pointer (some ⟨R, 0, none⟩)) := by have := HB2.out; simp [World.cell?, this]
        have c02 := HR2.out.c0
        have lR2 := HR2.out.lt
        have k1 : (0 : Int) ≤ (m : Int) := by omega
        have k2 : (m : Int) ≤ ((c :: r).length : Int) := by omega
        have k3 : m ≤ (c :: r).length := hm2
        go_upto_region 4 with fail
        go_cut [38] from 39 to 48 (fun p wx => p = .bool b ∧ wx = w2)
        case first =>
          have HBd : Hid (b = decide (x < 32 ∨ (x = 65533 ∧ m < 2))) := Lib.hid (by rw [hb0]; exact decide_eq_decide.2 hbad)
          clear hb0 hbad
          by_cases q1 : x < 32
          · have q2 : (x : Int) < 32 := by omega
            have HQ : Hid (b = true) := Lib.hid (by rw [HBd.out]; simp [q1])
            go_wp2_with fail
            go_meet
            exact ⟨by rw [HQ.out], rfl⟩
          · have q2 : ¬ (x : Int) < 32 := by omega
            by_cases q3 : x = 65533
            · have q4 : ((x : Int) == 65533) = true := by rw [q3]; rfl
              by_cases q5 : m < 2
              · have q6 : (m : Int) < 2 := by omega
                have HQ : Hid (b = true) := Lib.hid (by rw [HBd.out]; simp [q3, q5])
                clear q3
                go_wp2_with fail
                go_meet
                exact ⟨by rw [HQ.out], rfl⟩
              · have q6 : ¬ (m : Int) < 2 := by omega
                have HQ : Hid (b = false) := Lib.hid (by rw [HBd.out]; simp [q1, q3, q5])
                clear q3
                go_wp2_with fail
                go_meet
                exact ⟨by rw [HQ.out], rfl⟩
            · have q4 : ((x : Int) == 65533) = false := by simp; omega
              have HQ : Hid (b = false) := Lib.hid (by rw [HBd.out]; simp [q1, q3])
              clear q3
              go_wp2_with fail
              go_meet
              exact ⟨by rw [HQ.out], rfl⟩
        case rest =>
        obtain ⟨rfl, rfl⟩ := hcut
        have HL2 := Lib.hid hlen2
        clear hbad hlen2
        cases b with
        | true =>
          have lRc := HR2.out.lt
          have b9 : wc.cell? ⟨sb, 0, none⟩ = some (.pointer (some ⟨R, 0, none⟩)) := by have := HB2.out; simp [World.cell?, this]
          have HE : Hid (E = .error 150) := Lib.hid (HE0.out.symm.trans (wg_bad (of_decide_eq_true hb0.symm)))
          clear hb0
          have HFl := Lib.hid (fail_new a R 150 (c :: r) nest wc HR2.out (HW.out _ _ HJ2.out))
          go_wp2_with fail
          refine HFl.out.mono ?_
          rintro e w3 ⟨rfl, hs⟩
          have HJ3 := Lib.hid (HST.out _ _ _ HJ2.out hs.2)
          have HR3 := Lib.hid hs.1
          clear hs
          go_wp2_with fail
          rw [Exit.noGoto_normal]
          go_end0
          rw [HE.out]
          exact ⟨⟨_, rfl⟩, _, _, HJ3.out, HR3.out⟩
        | false =>
          have lRc := HR2.out.lt
          have b9 : wc.cell? ⟨sb, 0, none⟩ = some (.pointer (some ⟨R, 0, none⟩)) := by have := HB2.out; simp [World.cell?, this]
          have HN : Hid (¬ badR (c :: r)) := Lib.hid (of_decide_eq_false hb0.symm)
          clear hb0
          by_cases hc : c = 34
          · subst hc
            have HE : Hid (E = .ok (pre, r)) := Lib.hid (HE0.out.symm.trans (wg_quote HN.out))
            have HT := Lib.hid (show Calls Tryz.prog 59 #[.pointer (some ⟨R, 0, none⟩), .string (bs [34])] wc fun e w' => e = .returned (.bool true) ∧ Steps wc w' R r nest .nilIface from HT1.out _ _ wc HR2.out)
            go_wp2_with fail
            refine HT.out.mono ?_
            rintro e w3 ⟨rfl, hs⟩
            have HJ3 := Lib.hid (HST.out _ _ _ HJ2.out hs.2)
            have HR3 := Lib.hid hs.1
            clear hs
            go_wp2_with fail
            rw [Exit.noGoto_normal]
            go_end0
            rw [HE.out]
            exact ⟨⟨_, rfl⟩, HJ3.out, HR3.out⟩
          · have HT := HT1.out _ _ wc HR2.out
            have hc1 : (34 : UInt8) ≠ c := fun e => hc e.symm
            rw [takeP_no hc1] at HT
            have HT := Lib.hid HT
            have HC := Lib.hid hc
            clear hc hc1
            go_wp2_with fail
            refine HT.out.mono ?_
            rintro e w3 ⟨rfl, hs⟩
            have HJ3 := Lib.hid (HST.out _ _ _ HJ2.out hs.2)
            have HR3 := Lib.hid (show RdAt w3 R (c :: r) nest .nilIface from hs.1)
            clear hs
            have HB3 := Lib.hid (HBX.out _ _ HJ3.out)
            have b3 : w3.cell? ⟨sb, 0, none⟩ = some (.pointer (some ⟨R, 0, none⟩)) := by have := HB3.out; simp [World.cell?, this]
            have lR3 := HR3.out.lt
            by_cases hd : c = 92
            · subst hd
              have HE := Lib.hid (HE0.out.symm.trans (wg_esc HN.out))
              have HT' := Lib.hid (show Calls Tryz.prog 59 #[.pointer (some ⟨R, 0, none⟩), .string (bs [92])] w3 fun e w' => e = .returned (.bool true) ∧ Steps w3 w' R r nest .nilIface from HT2.out _ _ w3 HR3.out)
              go_wp2_with fail
              refine HT'.out.mono ?_
              rintro e w4 ⟨rfl, hs⟩
              have HJ4 := Lib.hid (HST.out _ _ _ HJ3.out hs.2)
              have HR4 := Lib.hid hs.1
              clear hs
              have HB4 := Lib.hid (HBX.out _ _ HJ4.out)
              have b4 : w4.cell? ⟨sb, 0, none⟩ = some (.pointer (some ⟨R, 0, none⟩)) := by have := HB4.out; simp [World.cell?, this]
              have hrl : r.length ≤ 100000000 := by have := HL2.out; simp at this; omega
              have HX := escape_any a R r nest w4 HR4.out hrl (HW.out _ _ HJ4.out) hR
              cases hx : escapeL r with
              | error ec =>
                rw [hx] at HX HE
                have HX := Lib.hid HX
                clear hx hrl
                go_wp2_with fail
                refine HX.out.mono ?_
                rintro e w5 ⟨rfl, q, hs⟩
                have HJ5 := Lib.hid (HST.out _ _ _ HJ4.out hs.2)
                have HR5 := Lib.hid hs.1
                clear hs
                go_upto_region 9 with fail
                obtain ⟨fn, tmps, assign, body, hy, hRd⟩ := HY.out pre [] _ HJ5.out (by simpa using hlen)
                have HRo := Lib.hid hRd
                clear hRd
                refine (wpIn_wide (n := n + 1)).1 ?_
                gi_wp2_with fail
                refine HRo.out.mono ?_
                rintro e w9 ⟨rfl, hJ9, hR9⟩
                have HJ9 := Lib.hid hJ9
                have HR9 := Lib.hid (show RdAt w9 R q nest (errV a ec) from hR9.trans HR5.out)
                clear hJ9 hR9
                gi_wp2_with fail
                go_wp2_with fail
                go_roundw
                case rel => exact ⟨_, _, _, HR9, HJ9, Lib.hid (.inr ⟨ec, rfl, HE.out⟩), by simpa using hlen⟩
                case measure => rw [restR_err HR9.out, restR_nil HR1.out]; omega
              | ok p =>
                obtain ⟨t, q⟩ := p
                rw [hx] at HX HE
                have HX := Lib.hid HX
                have HLE := Lib.hid (escape_len hx)
                have HLE2 := Lib.hid (escapeL_more hx).2.1
                clear hx hrl
                go_wp2_with fail
                refine HX.out.mono ?_
                rintro e w5 ⟨rfl, hs⟩
                have HJ5 := Lib.hid (HST.out _ _ _ HJ4.out hs.2)
                have HR5 := Lib.hid hs.1
                clear hs
                have HL5 : Hid ((pre ++ t).length + q.length ≤ l.length) := Lib.hid (by have h1 := HL2.out; have h2 := HLE.out; simp at h1 ⊢; omega)
                go_upto_region 9 with fail
                obtain ⟨fn, tmps, assign, body, hy, hRd⟩ := HY.out pre t _ HJ5.out (Nat.le_trans (Nat.le_add_right _ _) HL5.out)
                have HRo := Lib.hid hRd
                clear hRd
                refine (wpIn_wide (n := n + 1)).1 ?_
                gi_wp2_with fail
                refine HRo.out.mono ?_
                rintro e w9 ⟨rfl, hJ9, hR9⟩
                have HJ9 := Lib.hid hJ9
                have HR9 := Lib.hid (show RdAt w9 R q nest .nilIface from hR9.trans HR5.out)
                clear hJ9 hR9
                gi_wp2_with fail
                go_wp2_with fail
                go_roundw
                case rel => exact ⟨_, _, _, HR9, HJ9, Lib.hid (.inl ⟨rfl, HL5.out, k, by have := HLE2.out; simp at hk; omega, HE.out.symm⟩), Nat.le_trans (Nat.le_add_right _ _) HL5.out⟩
                case measure => rw [restR_nil HR9.out, restR_nil HR1.out]; have := HLE2.out; simp; omega
            · have HT' := HT2.out _ _ w3 HR3.out
              have hd1 : (92 : UInt8) ≠ c := fun e => hd e.symm
              rw [takeP_no hd1] at HT'
              have HT' := Lib.hid HT'
              have HE := Lib.hid (HG.out HN.out HC.out hd)
              clear hd hd1
              go_wp2_with fail
              refine HT'.out.mono ?_
              rintro e w4 ⟨rfl, hs⟩
              have HJ4 := Lib.hid (HST.out _ _ _ HJ3.out hs.2)
              have HR4 := Lib.hid (show RdAt w4 R (c :: r) nest .nilIface from hs.1)
              clear hs
              have HB4 := Lib.hid (HBX.out _ _ HJ4.out)
              have b4 : w4.cell? ⟨sb, 0, none⟩ = some (.pointer (some ⟨R, 0, none⟩)) := by have := HB4.out; simp [World.cell?, this]
              have lR4 := HR4.out.lt
              have c4 := HR4.out.c0
              have z4 := HR4.out.z 0
              have k4 : (m : Int) ≤ (r.length : Int) + 1 := by have := k3; simp at this; omega
              have hx3 : (bs (c :: r)).extract m (r.length + 1) = bs ((c :: r).drop m) := hx2
              go_wp2_with fail
              refine wp_region_ordz (S := fun w' => w'.cell? ⟨sb, 0, none⟩ = some (.pointer (some ⟨R, 0, none⟩)) ∧ w'.cell? ⟨R, 0, none⟩ = some (.string (bs (c :: r)))) [0, 1, 2, 3, 4, 5, 6, 7] [8, 9, 10, 11] 11 (by kernel_rfl) (by kernel_rfl) (fun _ _ _ _ _ h => h) ⟨b4, c4⟩ ?_
              simp only [pick, List.filterMap_cons, List.filterMap_nil, List.getElem?_toArray, List.getElem?_cons_zero, List.getElem?_cons_succ]
              repeat (refine wpHead_step (v := ?_) rfl ?_ ?_; rotate_left; (focus (rintro w1 ⟨d0, d1⟩; go_simp; try with_reducible rfl)); simp only [Act.put, List.setIfInBounds_toArray, List.set_cons_zero, List.set_cons_succ])
              refine wpHead_nil ?_
              have hJ5 := HST.out _ _ ((w4.setCell ⟨R, 0, none⟩ (.string (bs ((c :: r).drop m)))).drew) HJ4.out ((Lz.KeptBut.setT _ _ _ _ _).trans (but_below' (m := w4.heap.size) (T := R) ((Below.refl w4.heap.size _).drew)))
              have HJ5 := Lib.hid hJ5
              have HR5 := Lib.hid (show RdAt ((w4.setCell ⟨R, 0, none⟩ (.string (bs ((c :: r).drop m)))).drew) R ((c :: r).drop m) nest .nilIface from RdAt.put0 HR4.out _)
              clear hJ5
              refine wpTailZ_step rfl (fun K hK => ?_)
              go_wp2_with fail
              refine hK _ _ ⟨b4, c4⟩ ?_
              clear hK K
              try simp only [Act.put, List.setIfInBounds_toArray, List.set_cons_zero, List.set_cons_succ]
              refine wpTailZ_step rfl (fun K hK => ?_)
              go_wp2_with fail
              refine hK _ _ ⟨b4, c4⟩ ?_
              clear hK K
              try simp only [Act.put, List.setIfInBounds_toArray, List.set_cons_zero, List.set_cons_succ]
              refine wpTailZ_step rfl (fun K hK => ?_)
              go_wp2_with fail
              refine hK _ _ ⟨b4, c4⟩ ?_
              clear hK K
              try simp only [Act.put, List.setIfInBounds_toArray, List.set_cons_zero, List.set_cons_succ]
              refine wpTailZ_last rfl (fun K hK => ?_)
              have HL5 : Hid ((pre ++ (c :: r).take m).length + ((c :: r).drop m).length ≤ l.length) := Lib.hid (by have h1 := HL2.out; have h2 := k3; simp at h1 h2 ⊢; omega)
              have HLE2 : Hid (((c :: r).drop m).length < r.length + 1) := Lib.hid (by have h2 := k3; simp at h2 ⊢; omega)
              go_upto_region 9 with fail
              generalize (w4.setCell ⟨R, 0, none⟩ (.string (bs ((c :: r).drop m)))).drew = w5 at *
              clear hx1 hx2 hx3
              generalize (c :: r).take m = tk at *
              generalize (c :: r).drop m = dr at *
              obtain ⟨fn, tmps, assign, body, hy, hRd⟩ := HY.out pre tk _ HJ5.out (Nat.le_trans (Nat.le_add_right _ _) HL5.out)
              have HRo := Lib.hid hRd
              clear hRd
              refine (wpIn_wide (n := n + 1)).1 ?_
              gi_wp2_with fail
              refine HRo.out.mono ?_
              rintro e w9 ⟨rfl, hJ9, hR9⟩
              have HJ9 := Lib.hid hJ9
              have HR9 := Lib.hid (show RdAt w9 R dr nest .nilIface from hR9.trans HR5.out)
              clear hJ9 hR9
              gi_wp2_with fail
              go_wp2_with fail
              go_roundw
              case rel => exact ⟨_, _, _, HR9, HJ9, Lib.hid (.inl ⟨rfl, HL5.out, k, by have := HLE2.out; simp at hk; omega, HE.out⟩), Nat.le_trans (Nat.le_add_right _ _) HL5.out⟩
              case measure => rw [restR_nil HR9.out, restR_nil HR1.out]; have := HLE2.out; simp at this ⊢; omega
    · have HE := Lib.hid hE
      unfold errV at c2
      clear hE HP1
      go_wp2_with fail
      rw [Exit.noGoto_normal]
      go_end0
      rw [HE.out]
      exact ⟨⟨_, rfl⟩, _, _, HJ1.out, HR1.out⟩
end Go.Proofs.YtamclieppbnpiabGreatDoor
/-
  Lists of texts: the library at them; what 'right' says of keys.
-/
namespace Go.Proofs.YtamclieppbnpiabGreatDoor
open Go Go.RowKit Go.Sort Go.Shelf
open Fz (HoldsS)

theorem holds_cells {w : World} {A : Option Addr} {l : List ByteArray} (h : HoldsS w A l) (hl : 0 < l.length) : ∃ b off, A = some ⟨b, off, none⟩ ∧ ∀ j, j < l.length → w.cell? ⟨b, off + j, none⟩ = some (.string (l.getD j ByteArray.empty)) := by
  obtain ⟨b, off, rfl, _⟩ := h 0 _ (List.getElem?_eq_getElem hl)
  refine ⟨b, off, rfl, fun j hj => ?_⟩
  obtain ⟨b2, off2, e, hc⟩ := h j _ (List.getElem?_eq_getElem hj)
  cases e
  rw [hc, List.getD_eq_getElem?_getD, List.getElem?_eq_getElem hj]
  rfl
theorem below_drewN' {a w : World} {m : Nat} (h : Below m a w) (n : Nat) : Below m a (w.drewN n) := ⟨h.os, h.tape, h.output, h.size, h.block⟩
theorem Equal_lib (a b : List ByteArray) (A B : Option Addr) (c d : Nat) (w : World) (hA : HoldsS w A a) (hB : HoldsS w B b) (ha : a.length ≤ 1000000000) (hb : b.length ≤ 1000000000) :
    Calls Tryz.prog 22 #[.slice A a.length c, .slice B b.length d] w fun e w' => e = .returned (.bool (decide (a = b))) ∧ Below w.heap.size w w' := by
  by_cases hl : a.length = b.length
  · by_cases h0 : a.length = 0
    · have e1 : a = [] := List.length_eq_zero_iff.1 h0
      have e2 : b = [] := List.length_eq_zero_iff.1 (by omega)
      subst e1 e2
      refine (Lay_slices_Equal_string_empty A B c 0 d w (by decide)).mono fun e w' ⟨h1, h2⟩ => ⟨by rw [h1]; rfl, by rw [h2]; exact Below.refl _ _⟩
    · obtain ⟨b1, o1, rfl, h1⟩ := holds_cells hA (by omega)
      obtain ⟨b2, o2, rfl, h2⟩ := holds_cells hB (by omega)
      refine (Lay_slices_Equal_string b1 o1 a.length c b2 o2 b.length d a b w (Nat.le_refl _) (Nat.le_refl _) (by omega) (by omega) h1 h2).mono fun e w' ⟨h3, q, h4⟩ => ⟨by rw [h3, List.take_length, List.take_length], by rw [h4]; exact below_drewN' (Below.refl _ w) q⟩
  · have hne : decide (a = b) = false := by simpa using fun e => hl (by rw [e])
    rw [hne]
    exact (Lay_slices_Equal_string_lens A B a.length c b.length d w hl).mono fun e w' ⟨h1, h2⟩ => ⟨h1, by rw [h2]; exact Below.refl _ _⟩
theorem containsS_in (l : List ByteArray) (x : ByteArray) : Lib.containsS l x = inB x l := by
  rw [Bool.eq_iff_iff, Lib.containsS_iff, inB_iff]
theorem Contains_lib (l : List ByteArray) (n : Nat) (A : Option Addr) (c : Nat) (x : ByteArray) (w : World) (hn : n ≤ l.length) (hA : HoldsS w A l) (hl : l.length ≤ 1000000000) :
    Calls Tryz.prog 62 #[.slice A n c, .string x] w fun e w' => e = .returned (.bool (inB x (l.take n))) ∧ w' = w := by
  by_cases h0 : n = 0
  · subst h0
    exact (Lay_slices_Contains_string_empty A c x w).mono fun e w' ⟨h1, h2⟩ => ⟨by rw [h1, List.take_zero]; rfl, h2⟩
  · obtain ⟨b, off, rfl, h1⟩ := holds_cells hA (by omega)
    exact (Lay_slices_Contains_string b off n c l x w hn (by omega) h1).mono fun e w' ⟨h2, h3⟩ => ⟨by rw [h2, containsS_in], h3⟩
theorem Index_lib (l : List ByteArray) (A : Option Addr) (c : Nat) (x : ByteArray) (w : World) (hA : HoldsS w A l) (hl : l.length ≤ 1000000000) :
    Calls Tryz.prog 21 #[.slice A l.length c, .string x] w fun e w' => e = .returned (.int .i64 (Lib.idxOfS l x)) ∧ w' = w := by
  by_cases h0 : l.length = 0
  · have e1 : l = [] := List.length_eq_zero_iff.1 h0
    subst e1
    exact Lay_slices_Index_string_empty A c x w
  · obtain ⟨b, off, rfl, h1⟩ := holds_cells hA (by omega)
    exact (Lay_slices_Index_string b off l.length c l x w (Nat.le_refl _) (by omega) h1).mono fun e w' ⟨h2, h3⟩ => ⟨by rw [h2, List.take_length], h3⟩
/-- Where a key's item stands. -/
theorem idx_get : ∀ (ks : List ByteArray) (l : List Js) (key : ByteArray) (i : Nat), (Lib.idxFromS ks key i = -1 ∧ getGo key ks l = none) ∨ ∃ k : Nat, Lib.idxFromS ks key i = ((i + k : Nat) : Int) ∧ k < ks.length ∧ getGo key ks l = l[k]?
  | [], l, key, i => .inl ⟨rfl, by unfold getGo; rfl⟩
  | z :: ks, l, key, i => by
    by_cases h : z = key
    · refine .inr ⟨0, by simp [Lib.idxFromS, h], by simp, ?_⟩
      cases l with
      | nil => rfl
      | cons x l => simp [getGo, h]
    · cases l with
      | nil =>
        rcases idx_get ks [] key (i + 1) with ⟨h1, h2⟩ | ⟨k, h1, h2, h3⟩
        · exact .inl ⟨by simp [Lib.idxFromS, h, h1], rfl⟩
        · exact .inr ⟨k + 1, by simp only [Lib.idxFromS, h, if_false, h1]; omega, by simpa using h2, rfl⟩
      | cons x l =>
        rcases idx_get ks l key (i + 1) with ⟨h1, h2⟩ | ⟨k, h1, h2, h3⟩
        · exact .inl ⟨by simp [Lib.idxFromS, h, h1], by simp [getGo, h, h2]⟩
        · exact .inr ⟨k + 1, by simp only [Lib.idxFromS, h, if_false, h1]; omega, by simpa using h2, by simp [getGo, h, h3]⟩
theorem below2 (w : World) (o1 o2 : Obj) : Below w.heap.size w ((w.alloc o1).alloc o2) := ((Below.refl _ w).alloc (Nat.le_refl _) _).alloc (by simp) _
theorem cells_keep {w w' : World} {p : Addr} {v : Value} (hb : Below w.heap.size w w') (h : w.cell? p = some v) : w'.cell? p = some v := (hb.cell (cell_lt h)).trans h
theorem HoldsS.take' {w : World} {A : Option Addr} {l : List ByteArray} (h : HoldsS w A l) (n : Nat) : HoldsS w A (l.take n) := fun k x hx => by
  rw [List.getElem?_take] at hx
  split at hx
  · exact h k x hx
  · cases hx
/-- A value's text bounds what it is made of. -/
theorem ok_text {M : Nat} (v : Js) : ∀ d, rightJ d v = true → fitJ v → (jtext v).length ≤ M → okJ M v := by
  induction v using Js.ind with
  | _ v ih =>
    intro d h hf hM
    obtain ⟨h1, h2⟩ := right_items h
    obtain ⟨p1, p2, p3, p4, p5⟩ := right_parts h1
    obtain ⟨f1, f2⟩ := fitJ_iff.1 hf
    refine okJ_iff.2 ⟨f1, by omega, by omega, by omega, fun k hk => by have := p4 k hk; omega, fun x hx => ?_⟩
    obtain ⟨e, rfl, hr⟩ := h2 x hx
    exact ih x hx e hr (f2 x hx) (by have := p5 x hx; omega)
theorem box_one (w : World) (cs : Array Value) (j : Nat) (v : Value) (h : cs[j]? = some v) : (w.alloc (.cells cs tJ)).cell? ⟨w.heap.size, j, none⟩ = some v := by
  rw [Lib.cell_of_heap (heap_alloc_new w _)]; exact h
theorem box_at (w : World) (o2 : Obj) (cs : Array Value) (j : Nat) (v : Value) (h : cs[j]? = some v) : ((w.alloc (.cells cs tJ)).alloc o2).cell? ⟨w.heap.size, j, none⟩ = some v := by
  have h1 : ((w.alloc (.cells cs tJ)).alloc o2).heap[w.heap.size]? = some (.cells cs tJ (0, 0)) := (Lib.alloc_old _ _ _ (by simp)).trans (heap_alloc_new w _)
  rw [Lib.cell_of_heap h1]; exact h
theorem box_at2 (w : World) (o1 : Obj) (cs : Array Value) (j : Nat) (v : Value) (h : cs[j]? = some v) : ((w.alloc o1).alloc (.cells cs tJ)).cell? ⟨w.heap.size + 1, j, none⟩ = some v := by
  have h1 : ((w.alloc o1).alloc (.cells cs tJ)).heap[w.heap.size + 1]? = some (.cells cs tJ (0, 0)) := by have := heap_alloc_new (w.alloc o1) (.cells cs tJ); simpa using this
  rw [Lib.cell_of_heap h1]; exact h
/-- The six cells, one by one. -/
def SixC (w : World) (b o : Nat) (x : Js) (A : Option Addr) (c : Nat) (B : Option Addr) (d : Nat) : Prop :=
  w.cell? ⟨b, o, none⟩ = some (.int .i64 x.kind) ∧ w.cell? ⟨b, o + 1, none⟩ = some (.bool x.yes) ∧ w.cell? ⟨b, o + 2, none⟩ = some (.int .i64 x.n) ∧ w.cell? ⟨b, o + 3, none⟩ = some (.string x.s) ∧ w.cell? ⟨b, o + 4, none⟩ = some (.slice A x.keys.length c) ∧ w.cell? ⟨b, o + 5, none⟩ = some (.slice B x.l.length d)
theorem SixC.keep {w w' : World} {b o : Nat} {x : Js} {A : Option Addr} {c : Nat} {B : Option Addr} {d : Nat} (h : SixC w b o x A c B d) (hb : Below w.heap.size w w') : SixC w' b o x A c B d :=
  ⟨cells_keep hb h.1, cells_keep hb h.2.1, cells_keep hb h.2.2.1, cells_keep hb h.2.2.2.1, cells_keep hb h.2.2.2.2.1, cells_keep hb h.2.2.2.2.2⟩
end Go.Proofs.YtamclieppbnpiabGreatDoor
