/-
  Lists of texts in memory; are two the same, by the document's program text.
-/
import Derived.Test.YtjlehlkkgkplmaaDoorProg
import Derived.Test.YtjlehlkkgkplmaaDoorReg
import Derived.WalkKit
import Derived.WalkSpells
import Derived.WalkLawsBesides
import Derived.Lib.Hide
import Derived.Lib.MinMax
import Derived.Deep.QuietTactic
import Derived.BigQuiet
import Derived.OwnWalk
import Derived.Deep.AppendLies
import Derived.KernelRfl
import Derived.Test.YtjlehlkkgkplmaaDoorFrT
set_option linter.unusedSimpArgs false
set_option linter.unusedVariables false
namespace Go.Proofs.YtjlehlkkgkplmaaDoor
open Go Go.RowKit

/-- The slice value '.slice A n c' holds, in w, the texts l. -/
def HoldsS (w : World) (A : Option Addr) (l : List ByteArray) : Prop :=
  ∀ (k : Nat) (x : ByteArray), l[k]? = some x → ∃ b off, A = some ⟨b, off, none⟩ ∧ w.cell? ⟨b, off + k, none⟩ = some (.string x)
theorem HoldsS.below {w w' : World} {A : Option Addr} {l : List ByteArray} (h : HoldsS w A l) (hb : Below w.heap.size w w') : HoldsS w' A l := fun k x hx => by
  obtain ⟨b, off, e, h1⟩ := h k x hx
  exact ⟨b, off, e, (hb.cell (p := ⟨b, _, none⟩) (cell_lt h1)).trans h1⟩
theorem HoldsS.nil (w : World) (A : Option Addr) : HoldsS w A [] := fun k x hx => by simp at hx
theorem list_eq {α : Type} {a b : List α} (hl : a.length = b.length) (h : ∀ k : Nat, k < a.length → a[k]? = b[k]?) : a = b := by
  refine List.ext_getElem? fun k => ?_
  by_cases hk : k < a.length
  · exact h k hk
  · rw [List.getElem?_eq_none (by omega), List.getElem?_eq_none (by omega)]

set_option maxRecDepth 100000 in
set_option maxHeartbeats 4000000 in
theorem Texts_any (a b : List ByteArray) (A C : Option Addr) (c d : Nat) (w : World) (ha : a.length ≤ 1000000) (hb : b.length ≤ 1000000) (hA : HoldsS w A a) (hC : HoldsS w C b) :
    Calls Tryd.prog 15 #[.slice A a.length c, .slice C b.length d] w fun e w' => e = .returned (.bool (decide (a = b))) ∧ Below w.heap.size w w' := by
  have HA := Lib.hid hA
  have HC := Lib.hid hC
  clear hA hC
  by_cases hl : a.length = b.length
  · have ql2 : ((a.length : Int) != (b.length : Int)) = false := by rw [hl]; simp
    have HL := Lib.hid hl
    have hl2 : b.length ≤ a.length := by omega
    have hl3 : a.length ≤ b.length := by omega
    clear hl
    go_enter Tryd.func15, Tryd.ntmps15
    go_wp2_with fail
    go_loopw [5] (fun i wr => ∃ (k : Nat), i = .int .i64 k ∧ k ≤ a.length ∧ Hid (∀ j : Nat, j < k → a[j]? = b[j]?) ∧ Hid (Below w.heap.size w wr)) (fun i _ => a.length - (intOf i).toNat)
    case atStart => exact ⟨0, rfl, Nat.zero_le _, Lib.hid (fun j hj => by omega), Lib.hid (Below.refl _ _)⟩
    case round =>
      obtain ⟨k, rfl, hk, HP, HB⟩ := hrel
      by_cases hlt : k < a.length
      · have ga := List.getElem?_eq_getElem (l := a) (i := k) hlt
        have gb := List.getElem?_eq_getElem (l := b) (i := k) (by omega)
        generalize a[k]'hlt = x at *
        generalize b[k]'(by omega) = y at *
        obtain ⟨b1, off1, rfl, d0⟩ := (HA.out.below HB.out) k x ga
        obtain ⟨b2, off2, rfl, f0⟩ := (HC.out.below HB.out) k y gb
        have i0 : (0 : Int) ≤ (k : Int) := by omega
        have i1 : (k : Int) < (a.length : Int) := by omega
        have i2 : (k : Int) < (b.length : Int) := by omega
        have HPN : Hid (x = y → ∀ j : Nat, j < k + 1 → a[j]? = b[j]?) := Lib.hid (fun e j hj => by
          by_cases hjk : j = k
          · subst hjk; rw [ga, gb, e]
          · exact HP.out j (by omega))
        have HNE : Hid (x ≠ y → a ≠ b) := Lib.hid (fun hne e => hne (by rw [e, gb] at ga; exact (Option.some.inj ga).symm))
        clear ga gb
        by_cases hxy : x = y
        · have HP2 := Lib.hid (HPN.out hxy)
          have q := bytes_beq_yes hxy
          clear HPN HNE hxy
          go_wp2_with fail
          go_quiet (fail)
          go_wp2_with fail
          go_roundw
          case rel => exact ⟨k + 1, by go_num, by omega, HP2, Lib.hid (below_drewN HB.out _)⟩
          case measure => simp [intOf]; omega
        · have HE : Hid (decide (a = b) = false) := Lib.hid (by simpa using HNE.out hxy)
          have q := bytes_beq_no hxy
          clear HPN HNE hxy
          go_wp2_with fail
          go_quiet (fail)
          go_wp2_with fail
          go_ret
          exact ⟨by rw [HE.out]; rfl, below_drewN HB.out _⟩
      · obtain rfl : k = a.length := by omega
        have HE : Hid (decide (a = b) = true) := Lib.hid (by simpa using list_eq HL.out HP.out)
        go_wp2_with fail
        go_ret
        exact ⟨by rw [HE.out]; rfl, HB.out⟩
  · have ql2 : ((a.length : Int) != (b.length : Int)) = true := by simp; omega
    have HE : Hid (decide (a = b) = false) := Lib.hid (by simpa using fun e => hl (by rw [e]))
    clear hl
    go_enter Tryd.func15, Tryd.ntmps15
    go_wp2_with fail
    go_ret
    exact ⟨by rw [HE.out]; rfl, Below.refl _ _⟩
end Go.Proofs.YtjlehlkkgkplmaaDoor
