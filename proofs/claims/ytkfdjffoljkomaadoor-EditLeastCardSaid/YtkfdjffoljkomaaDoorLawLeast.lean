/-
  The walk of the statement EditLeast.
-/
import Derived.Test.YtkfdjffoljkomaaDoorProg
import Derived.Test.YtkfdjffoljkomaaDoorReg
import Derived.WalkKit
import Derived.WalkSpells
import Derived.WalkLawsBesides
import Derived.Lib.Hide
import Derived.Lib.MinMax
import Derived.Deep.QuietTactic
import Derived.BigQuiet
import Derived.OwnWalk
import Derived.Deep.AppendLies
import Derived.KernelRfl
import Derived.Test.YtkfdjffoljkomaaDoorEdJ
import Derived.Test.YtkfdjffoljkomaaDoorEdV
import Derived.Test.YtkfdjffoljkomaaDoorEdW
namespace Go.Proofs.YtkfdjffoljkomaaDoor
open Go.RowKit

theorem between_diff {s t : ByteArray} (h : s ≠ t) : between s t = [edge s t] := by simp [between, h]
theorem between_none {s t : ByteArray} (h : s = t) : between s t = [] := by simp [between, h]

set_option maxRecDepth 100000 in
set_option maxHeartbeats 4000000 in
theorem editLeast_any (s t : ByteArray) (b : Addr) (w : World) (hs : s.size ≤ maxLen) (ht : t.size ≤ maxLen) (hg : ErrAt b w) :
    Calls Tryd.prog 6 #[.string s, .string t] w fun e w' => e = .returned (.bool true) ∧ Below w.heap.size w w' := by
  have HS := Lib.hid (shown_any b w hg)
  have Hg := Lib.hid hg
  clear hg
  go_enter Tryd.func6, Tryd.ntmps6
  go_wp2_with fail
  refine HS.out.mono ?_
  rintro e w1 ⟨rfl, hb1⟩
  go_wp2_with fail
  refine (show Calls _ _ _ _ fun e w' => e = .returned (.string (cut s)) ∧ w1 = w' from cut_any s w1 hs).mono ?_
  rintro e w1' ⟨rfl, rfl⟩
  have hcs := cut_small s
  generalize cut s = S at *
  go_wp2_with fail
  refine (show Calls _ _ _ _ fun e w' => e = .returned (.string (cut t)) ∧ w1 = w' from cut_any t w1 ht).mono ?_
  rintro e w1' ⟨rfl, rfl⟩
  have hct := cut_small t
  generalize cut t = T at *
  clear HS hs ht
  have hg1 := Hg.out.below hb1
  have HB := Lib.hid (between_any S T w1 (by omega) (by omega))
  go_wp2_with fail
  refine HB.out.mono ?_
  rintro e w2 ⟨B, d, rfl, hH2, hd2, hb2⟩
  have b12 : Below w.heap.size w w2 := hb1.trans (hb2.mono hb1.size)
  have hg2 := hg1.below hb2
  clear HB hb1 hb2 hg1
  by_cases hne : S = T
  · rw [between_none hne] at hH2 hd2 ⊢
    clear hne
    go_wp2_with fail
    go_ret
    exact ⟨rfl, b12⟩
  · rw [between_diff hne] at hH2 hd2 ⊢
    have hL := least_is S T hne
    have hmx : mild [edge S T] := mild_one (by
      have := front_le S T
      have := behind_le S T
      refine ⟨?_, ?_, ?_, ?_, ?_⟩ <;> simp only [edge, ByteArray.size_extract] <;> omega)
    have hp0 : (edge S T).pos = front S T := rfl
    have hpn : (edge S T).pos + (edge S T).n = ((S.size - behind S T : Nat) : Int) := by
      have := front_le S T
      have := behind_le S T
      simp only [edge]
      omega
    obtain ⟨a0, f0, hB, c1, c2, c3⟩ := hH2 0 (edge S T) rfl
    subst hB
    simp only [Nat.zero_mul, Nat.add_zero] at c1 c2 c3
    go_wp2_with fail
    have b23 : ∀ (o : Obj), Below w2.heap.size w2 (w2.alloc o) := fun o => (Below.refl _ _).alloc (Nat.le_refl _) _
    have hR := right_any S _ d [edge S T] b _ (by omega) hmx (hH2.below (b23 (.cells #[.int .i64 (edge S T).pos, .int .i64 (edge S T).n, .string (edge S T).s] 35))) (hg2.below (b23 _))
    rw [edge_right] at hR
    refine hR.mono ?_
    rintro e w3 ⟨rfl, hb3⟩
    have hX : (edge S T).s = inOf S T := rfl
    have d0 : w3.cell? ⟨w2.heap.size, 0, none⟩ = some (.int .i64 (edge S T).pos) := (hb3.cell (p := ⟨w2.heap.size, 0, none⟩) (by simp)).trans (by simp)
    have d1 : w3.cell? ⟨w2.heap.size, 1, none⟩ = some (.int .i64 (edge S T).n) := (hb3.cell (p := ⟨w2.heap.size, 1, none⟩) (by simp)).trans (by simp)
    have d2 : w3.cell? ⟨w2.heap.size, 2, none⟩ = some (.string (edge S T).s) := (hb3.cell (p := ⟨w2.heap.size, 2, none⟩) (by simp)).trans (by simp)
    have b13 : Below w.heap.size w w3 := b12.trans (((b23 _).trans (hb3.mono (by simp))).mono b12.size)
    clear c1 c2 c3 hR hb3 b12 hg2 hH2 hmx hd2 b23
    rw [hX] at d2
    rw [hp0] at d0 hpn
    have hfe : front S T ≤ S.size - behind S T := by have := front_le S T; have := behind_le S T; omega
    have hO : S.extract (front S T) (S.size - behind S T) = outOf S T := rfl
    generalize (edge S T).n = N at *
    generalize (edge S T).pos = P at *
    have hL' : ∃ U V, U = outOf S T ∧ V = inOf S T := ⟨_, _, rfl, rfl⟩
    obtain ⟨U, V, hU, hV⟩ := hL'
    rw [← hU] at hO
    rw [← hV] at d2
    rw [← hU, ← hV] at hL
    have HL := Lib.hid hL
    have hVs : V.size ≤ 600 := by rw [hV, in_size]; omega
    clear hU hV hL
    have hwr : IntKind.i64.wrap ((front S T : Int) + N) = ((S.size - behind S T : Nat) : Int) := by
      rw [hpn]
      exact IntWalk.i64_in _ (by omega)
    generalize hee : S.size - behind S T = E at *
    have hes : E ≤ S.size := by omega
    generalize front S T = F at *
    have hUs : U.size ≤ 600 := by
      rw [← hO, ByteArray.size_extract]
      omega
    by_cases hU0 : U.size = 0
    · have e1 := empty_is hU0
      have e2 := bytes_beq_no (HL.out.1 (.inl hU0))
      go_wp2_with fail
      go_ret
      exact ⟨rfl, b13⟩
    · by_cases hV0 : V.size = 0
      · have e0 := empty_not (show 0 < U.size by omega)
        have e1 := empty_is hV0
        have e2 := bytes_beq_no (HL.out.1 (.inr hV0))
        go_wp2_with fail
        go_ret
        exact ⟨rfl, b13⟩
      · have u0 : 0 < U.size := by omega
        have v0 : 0 < V.size := by omega
        have e0 := empty_not u0
        have e1 := empty_not v0
        obtain ⟨g1, g2⟩ := HL.out.2 u0 v0
        have q1 : ((U[0].toNat : Int) == (V[0].toNat : Int)) = false := by simp; omega
        have q2 : (((U[U.size - 1]'(by omega)).toNat : Int) == ((V[V.size - 1]'(by omega)).toNat : Int)) = false := by simp; omega
        have m1 : IntKind.i64.wrap ((U.size : Int) - 1) = (U.size : Int) - 1 := IntWalk.i64_in _ (by omega)
        have m2 : IntKind.i64.wrap ((V.size : Int) - 1) = (V.size : Int) - 1 := IntWalk.i64_in _ (by omega)
        have p1 : (0 : Int) ≤ (U.size : Int) - 1 := by omega
        have p2 : (0 : Int) ≤ (V.size : Int) - 1 := by omega
        have p3 : ((U.size : Int) - 1).toNat = U.size - 1 := by omega
        have p4 : ((V.size : Int) - 1).toNat = V.size - 1 := by omega
        have p7 : (1 : Int) ≤ (U.size : Int) := by omega
        have p8 : (1 : Int) ≤ (V.size : Int) := by omega
        have p9 : (U.size : Int) - 1 < (U.size : Int) := by omega
        have p0 : (V.size : Int) - 1 < (V.size : Int) := by omega
        have p5 : U.size - 1 < U.size := by omega
        have p6 : V.size - 1 < V.size := by omega
        have q3 : ((U[0].toNat : Int) != (V[0].toNat : Int)) = true := by simp; omega
        have q4 : (((U[U.size - 1]'(by omega)).toNat : Int) != ((V[V.size - 1]'(by omega)).toNat : Int)) = true := by simp; omega
        clear g1 g2
        go_wp2_with fail
        go_quiet (fail)
        go_wp2_with fail
        go_ret
        exact ⟨rfl, below_drewN b13 _⟩
end Go.Proofs.YtkfdjffoljkomaaDoor
