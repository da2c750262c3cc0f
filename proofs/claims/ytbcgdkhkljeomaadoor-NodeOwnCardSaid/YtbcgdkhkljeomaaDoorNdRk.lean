/-
  A kid's tree: by the reference.
-/
import Derived.Test.YtbcgdkhkljeomaaDoorProg
import Derived.Test.YtbcgdkhkljeomaaDoorReg
import Derived.WalkKit
import Derived.WalkSpells
import Derived.WalkLawsBesides
import Derived.Lib.Hide
import Derived.Lib.MinMax
import Derived.Deep.QuietTactic
import Derived.BigQuiet
import Derived.OwnWalk
import Derived.Deep.AppendLies
import Derived.KernelRfl
import Derived.Test.YtbcgdkhkljeomaaDoorNdKd
import Derived.Test.YtbcgdkhkljeomaaDoorNdS
import Derived.Test.YtbcgdkhkljeomaaDoorNdF
set_option linter.unusedSimpArgs false
set_option linter.unusedVariables false
namespace Go.Proofs.YtbcgdkhkljeomaaDoor
open Go.RowKit

set_option maxRecDepth 100000 in
set_option maxHeartbeats 8000000 in
theorem refKid_any (t : List Nd) (n : Int) (A : Option Addr) (c : Nat) (w : World) (hh : HoldsN w A t) (hi : IntN t) (hcap : t.length ≤ c) (hl : t.length ≤ 1000) :
    Calls Tryd.prog 18 #[.slice A t.length c, .int .i64 n] w fun e w' => KidGot t n e w w' := by
  have HRt := Lib.hid (refRight_any t A c w hh hi)
  cases hr : rightN t with
  | false =>
    rw [hr] at HRt
    have HKN : Hid (kidN t n = none) := Lib.hid (by unfold kidN; rw [if_neg (by rw [hr]; simp)])
    clear hr
    go_enter Tryd.func18, Tryd.ntmps18
    go_wp2_with fail
    refine HRt.out.mono ?_
    rintro e w2 ⟨rfl, hb2⟩
    go_wp2_with fail
    go_ret2
    exact ⟨by rw [HKN.out]; rfl, hb2⟩
  | true =>
    rw [hr] at HRt
    obtain ⟨r1, r2, hok, _⟩ := rightN_parts hr
    have hlast : t.length - 1 < t.length := by omega
    have gl := List.getElem?_eq_getElem hlast
    have HRK : Hid (rootKids t = (t[t.length - 1]).kids) := Lib.hid (by unfold rootKids; rw [nodeAt_some gl])
    have hkl := (hi _ (List.getElem_mem hlast)).2.1
    have hkd := fun k hk => nodes_kid hok hlast (k := k) hk
    rw [nodeAt_some gl] at hkd
    generalize t[t.length - 1] = x at *
    obtain ⟨b, off, rfl, c0, c1, B, c2, c3, hK, hc⟩ := hh _ x gl
    have hbl : b < w.heap.size := cell_lt c0
    have HC3 := Lib.hid c3
    have HTR := Lib.hid hr
    have hw4 : IntKind.i64.wrap ((t.length : Int) - 1) = (t.length : Int) - 1 := IntWalk.i64_in _ (by omega)
    have hw5 : ((t.length : Int) - 1).toNat = t.length - 1 := by omega
    have hw6 : (0 : Int) ≤ (t.length : Int) - 1 := by omega
    have hw7 : (t.length : Int) - 1 < (t.length : Int) := by omega
    go_enter Tryd.func18, Tryd.ntmps18
    clear hr c0 c1 c3
    go_wp2_with fail
    refine HRt.out.mono ?_
    rintro e w2 ⟨rfl, hb2⟩
    have d3 := (hb2.cell (p := ⟨b, _, none⟩) hbl).trans HC3.out
    by_cases hn0 : n < 0
    · have HKN : Hid (kidN t n = none) := Lib.hid (by unfold kidN; rw [if_neg (by omega)])
      go_wp2_with fail
      go_ret2
      exact ⟨by rw [HKN.out]; rfl, hb2⟩
    by_cases hn1 : (x.kids.length : Int) ≤ n
    · have HKN : Hid (kidN t n = none) := Lib.hid (by unfold kidN; rw [if_neg (by rw [HRK.out]; omega)])
      go_wp2_with fail
      go_ret2
      exact ⟨by rw [HKN.out]; rfl, hb2⟩
    obtain ⟨m, rfl⟩ : ∃ m : Nat, n = (m : Int) := ⟨n.toNat, by omega⟩
    have hml : m < x.kids.length := by omega
    have gm := List.getElem?_eq_getElem hml
    obtain ⟨hk0, hk9⟩ := hkd _ (List.getElem_mem hml)
    have HKO : Hid (kidN t (m : Int) = if rightN (movedN (-(firstAt t (x.kids[m]).toNat : Int)) (subOf t (x.kids[m]).toNat)) then some (movedN (-(firstAt t (x.kids[m]).toNat : Int)) (subOf t (x.kids[m]).toNat)) else none) := Lib.hid (by
      have e1 : kidOf t m = movedN (-(firstAt t (x.kids[m]).toNat : Int)) (subOf t (x.kids[m]).toNat) := by
        rw [kidOf_eq, HRK.out, List.getD_eq_getElem?_getD, gm]
        rfl
      unfold kidN
      rw [if_pos ⟨HTR.out, by omega, by rw [HRK.out]; omega⟩, Int.toNat_natCast, e1])
    obtain ⟨at_, hat⟩ : ∃ at_ : Nat, x.kids[m] = (at_ : Int) := ⟨(x.kids[m]).toNat, by omega⟩
    rw [hat] at HKO gm hk9
    rw [Int.toNat_natCast] at HKO
    have hal : at_ < t.length := by omega
    have hfl := firstAt_le hok hal
    have hmi : (m : Int) < (x.kids.length : Int) := by omega
    obtain ⟨b4, off4, rfl, f3⟩ := hK m _ gm
    have f4 := (hb2.cell (p := ⟨b4, _, none⟩) (cell_lt f3)).trans f3
    have HFR := Lib.hid (refFirst_any t hok hi (by omega) (at_ + 1) at_ (by omega) hal (some ⟨b, off, none⟩) c w2 (hh.below hb2))
    have hsl : (subOf t at_).length = at_ + 1 - firstAt t at_ := by unfold subOf; rw [List.length_take, List.length_drop]; omega
    have hsub : HoldsN w (some ⟨b, off + firstAt t at_ * 3, none⟩) (subOf t at_) := fun k y hy => by
      have hk : k < at_ + 1 - firstAt t at_ := by rw [← hsl]; exact (List.getElem?_eq_some_iff.1 hy).1
      unfold subOf at hy
      rw [List.getElem?_take, if_pos hk, List.getElem?_drop] at hy
      obtain ⟨b', off', e, h⟩ := hh _ _ hy
      cases e
      rw [show off + (firstAt t at_ + k) * 3 = off + firstAt t at_ * 3 + k * 3 by omega] at h
      exact ⟨b, _, rfl, h⟩
    have hsmem : ∀ y ∈ subOf t at_, y ∈ t := fun y hy => by
      unfold subOf at hy
      exact List.mem_of_mem_drop (List.mem_of_mem_take hy)
    have hskid : ∀ y ∈ subOf t at_, ∀ k ∈ y.kids, -1000000 ≤ k ∧ k ≤ 1000000 := fun y hy k hk => by
      have := kids_small HTR.out y (hsmem y hy) k hk
      omega
    have hIM := Lib.hid ((hi.sub hsmem).movedS (by_ := -(firstAt t at_ : Int)) hskid (by omega) (by omega))
    have hMV := Lib.hid (moved_any (subOf t at_) (-(firstAt t at_ : Int)) (some ⟨b, off + firstAt t at_ * 3, none⟩) (c - firstAt t at_) w2 (hsub.below hb2) (hi.sub hsmem) (by omega) (by omega) (by omega) hskid)
    rw [hsl] at hMV
    clear hsub hsmem hskid hok gl gm hkd hat
    generalize firstAt t at_ = fr at *
    have hs1 : (0 : Int) ≤ (fr : Int) := by omega
    have hs2 : (fr : Int) ≤ (at_ : Int) + 1 := by omega
    have hs3 : (at_ : Int) + 1 ≤ (c : Int) := by omega
    have hs4 : IntKind.i64.wrap ((at_ : Int) + 1) = (at_ : Int) + 1 := IntWalk.i64_in _ (by omega)
    have hs5 : IntKind.i64.wrap (-(fr : Int)) = -(fr : Int) := IntWalk.i64_in _ (by omega)
    have hs6 : ((at_ : Int) + 1).toNat = at_ + 1 := by omega
    have hs7 : ¬ c = fr := by omega
    go_wp2_with fail
    refine HFR.out.mono ?_
    rintro e w3 ⟨rfl, rfl⟩
    go_wp2_with fail
    refine hMV.out.mono ?_
    rintro e w4 ⟨v, L, rfl, hm4, hN4, hb4⟩
    obtain ⟨A6, c6, rfl, h6, _⟩ := hN4.holds
    rw [hm4] at h6
    have hlm : (movedN (-(fr : Int)) (subOf t at_)).length = L.length := by rw [← hm4, List.length_map]
    have HRo := Lib.hid (refRight_any _ A6 c6 w4 h6 hIM.out)
    rw [hlm] at HRo
    have hB4 : Below w.heap.size w w4 := hb2.trans (hb4.mono hb2.size)
    have HN4 := Lib.hid (hN4.mono hb2.size)
    have HM4 := Lib.hid hm4
    clear hm4 h6 hlm hN4
    go_wp2_with fail
    refine HRo.out.mono ?_
    rintro e w5 ⟨rfl, hb5⟩
    have hB5 : Below w.heap.size w w5 := hB4.trans (hb5.mono hB4.size)
    have HN5 := Lib.hid (HN4.out.below hb5)
    cases hro : rightN (movedN (-(fr : Int)) (subOf t at_)) with
    | false =>
      have HKN : Hid (kidN t (m : Int) = none) := Lib.hid (by rw [HKO.out, hro]; rfl)
      clear hro
      go_wp2_with fail
      go_ret2
      exact ⟨by rw [HKN.out]; rfl, hB5⟩
    | true =>
      have HKN : Hid (kidN t (m : Int) = some (movedN (-(fr : Int)) (subOf t at_))) := Lib.hid (by rw [HKO.out, hro]; rfl)
      clear hro
      go_wp2_with fail
      go_ret2
      exact ⟨by rw [HKN.out]; exact ⟨_, _, rfl, HN5.out, HM4.out⟩, hB5⟩
end Go.Proofs.YtbcgdkhkljeomaaDoor
