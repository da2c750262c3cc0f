/-
  What the statements of layer 7 show of one tree.
-/
import Derived.Test.YtbcgdkhkljeomaaDoorProg
import Derived.Test.YtbcgdkhkljeomaaDoorReg
import Derived.WalkKit
import Derived.WalkSpells
import Derived.WalkLawsBesides
import Derived.Lib.Hide
import Derived.Lib.MinMax
import Derived.Deep.QuietTactic
import Derived.BigQuiet
import Derived.OwnWalk
import Derived.Deep.AppendLies
import Derived.KernelRfl
import Derived.Test.YtbcgdkhkljeomaaDoorNdLf
import Derived.Test.YtbcgdkhkljeomaaDoorNdKd
import Derived.Test.YtbcgdkhkljeomaaDoorNdQ
import Derived.Test.YtbcgdkhkljeomaaDoorNdO
import Derived.Test.YtbcgdkhkljeomaaDoorNdSo
import Derived.Test.YtbcgdkhkljeomaaDoorNdI
set_option linter.unusedSimpArgs false
set_option linter.unusedVariables false
namespace Go.Proofs.YtbcgdkhkljeomaaDoor
open Go.RowKit

abbrev shA : List Nd := [⟨9, ⟨#[43]⟩, []⟩]
abbrev shB : List Nd := [⟨1, ⟨#[49]⟩, []⟩]
abbrev shT : List Nd := [⟨9, ⟨#[43]⟩, []⟩, ⟨1, ⟨#[49]⟩, []⟩, ⟨6, ⟨#[]⟩, [0, 1]⟩]
theorem sh_a : joinN 9 ⟨#[43]⟩ [] = some shA := by decide +kernel
theorem sh_b : joinN 1 ⟨#[49]⟩ [] = some shB := by decide +kernel
theorem sh_t : joinN 6 ⟨#[]⟩ [shA, shB] = some shT := by decide +kernel
theorem sh_k : kidN shT 1 = some shB := by decide +kernel
theorem sh_n : joinN 6 ⟨#[]⟩ [] = none := by decide +kernel
theorem sh_s : showN shT = ⟨#[40, 54, 58, 32, 57, 58, 43, 32, 49, 58, 49, 41]⟩ := by decide +kernel
theorem sh_d : deepN shT = 2 := by decide +kernel
theorem sh_r : rightN shT = true := by decide +kernel
theorem sh_int : IntN shT := by
  intro x hx
  have h : ∀ y ∈ shT, (Lit.int .i64 y.kind).wf = true ∧ y.kids.length ≤ 1000 ∧ y.text.size ≤ 1000000 ∧ ∀ k ∈ y.kids, (Lit.int .i64 k).wf = true := by decide +kernel
  exact h x hx
theorem sh_intA : IntN shA := by
  intro x hx
  have h : ∀ y ∈ shA, (Lit.int .i64 y.kind).wf = true ∧ y.kids.length ≤ 1000 ∧ y.text.size ≤ 1000000 ∧ ∀ k ∈ y.kids, (Lit.int .i64 k).wf = true := by decide +kernel
  exact h x hx
theorem sh_intB : IntN shB := by
  intro x hx
  have h : ∀ y ∈ shB, (Lit.int .i64 y.kind).wf = true ∧ y.kids.length ≤ 1000 ∧ y.text.size ≤ 1000000 ∧ ∀ k ∈ y.kids, (Lit.int .i64 k).wf = true := by decide +kernel
  exact h x hx
/-- What a slice of nodes of one's own has, in the form of a slice. -/
theorem HasN.opened {w : World} {base : Nat} {v : Value} {L : List (Nd × Value)} {t : List Nd} {n : Nat} (h : HasN w base v L) (hm : L.map Prod.fst = t) (hn : t.length = n) : ∃ A c, v = .slice A n c ∧ HoldsN w A t ∧ n ≤ c := by
  obtain ⟨A, c, rfl, h1, h2⟩ := h.holds
  have hl : L.length = n := by rw [← hn, ← hm, List.length_map]
  rw [hm] at h1
  exact ⟨A, c, by rw [hl], h1, by omega⟩
theorem holdsTs_two {w : World} {b : Nat} {A1 A2 : Option Addr} {c1 c2 : Nat} {t1 t2 : List Nd} {T : TypeId} {fr : Nat × Nat} (h : w.heap[b]? = some (.cells #[.slice A1 t1.length c1, .slice A2 t2.length c2] T fr)) (h1 : HoldsN w A1 t1) (h2 : HoldsN w A2 t2) (q1 : t1.length ≤ c1) (q2 : t2.length ≤ c2) : HoldsTs w (some ⟨b, 0, none⟩) [t1, t2] := fun k t hk => by
  match k, hk with
  | 0, hk => simp at hk; subst hk; exact ⟨b, 0, rfl, A1, c1, by simp [World.cell?, h], h1, q1⟩
  | 1, hk => simp at hk; subst hk; exact ⟨b, 0, rfl, A2, c2, by simp [World.cell?, h], h2, q2⟩

set_option maxRecDepth 100000 in
set_option maxHeartbeats 8000000 in
theorem shown_any (a : Addr) (w : World) (he : errNodeAt a w) : Calls Tryd.prog 9 #[] w fun e w' => e = .returned (.bool true) ∧ Below w.heap.size w w' := by
  have HL := Lib.hid (leaf_any 9 ⟨#[43]⟩ a w (by decide) (by decide) he)
  have hgl := cell_lt he
  simp only at hgl
  go_enter Tryd.func9, Tryd.ntmps9
  go_wp2_with fail
  refine HL.out.mono ?_
  rintro e w1 ⟨h1, hb1⟩
  rw [sh_a] at h1
  obtain ⟨v1, L1, rfl, hN1, hm1⟩ := h1
  obtain ⟨A1, c1, rfl, hH1, q1⟩ := hN1.opened hm1 (n := 1) rfl
  have he1 : errNodeAt a w1 := (hb1.cell (p := ⟨0, 0, none⟩) hgl).trans he
  have H1 := Lib.hid (leaf_any 1 ⟨#[49]⟩ a w1 (by decide) (by decide) he1)
  clear HL hN1 hm1
  go_wp2_with fail
  refine H1.out.mono ?_
  rintro e w2 ⟨h2, hb2⟩
  rw [sh_b] at h2
  obtain ⟨v2, L2, rfl, hN2, hm2⟩ := h2
  obtain ⟨A2, c2, rfl, hH2, q2⟩ := hN2.opened hm2 (n := 1) rfl
  have he2 : errNodeAt a w2 := (hb2.cell (p := ⟨0, 0, none⟩) (cell_lt he1)).trans he1
  have hH12 := hH1.below hb2
  have B2 := Lib.hid (hb1.trans (hb2.mono hb1.size))
  have HI : Hid (∀ u : World, Below w2.heap.size w2 u → u.heap[w2.heap.size]? = some (.cells #[.slice A1 1 c1, .slice A2 1 c2] tNs (0, 0)) → Calls Tryd.prog 15 #[.int .i64 6, .string ⟨#[]⟩, .slice (some ⟨w2.heap.size, 0, none⟩) 2 2] u fun e w' => JoinDone 6 ⟨#[]⟩ [shA, shB] e u w') :=
    Lib.hid (fun u hbu hu => join_any 6 ⟨#[]⟩ [shA, shB] _ 2 a u (by decide) (by decide) (by decide) (holdsTs_two (t1 := shA) (t2 := shB) hu (hH12.below hbu) (hH2.below hbu) q1 q2)
      (fun t ht => by
        simp only [List.mem_cons, List.not_mem_nil, or_false] at ht
        rcases ht with rfl | rfl
        · exact ⟨by decide, sh_intA⟩
        · exact ⟨by decide, sh_intB⟩) ((hbu.cell (p := ⟨0, 0, none⟩) (cell_lt he2)).trans he2))
  clear H1 hN2 hm2 hH1 hb1 he he1 hb2
  go_wp2_with fail
  refine (HI.out _ ((Below.refl _ _).alloc (Nat.le_refl _) _) (heap_alloc_new w2 _)).mono ?_
  rintro e w3 ⟨h3, hb3⟩
  rw [sh_t] at h3
  obtain ⟨v3, L3, rfl, hN3, hm3⟩ := h3
  obtain ⟨A3, c3, rfl, hH3, q3⟩ := hN3.opened hm3 (n := 3) rfl
  have hb23 : Below w2.heap.size w2 w3 := ((Below.refl _ w2).alloc (Nat.le_refl _) (.cells #[.slice A1 1 c1, .slice A2 1 c2] tNs)).trans (hb3.mono (by simp))
  have he3 : errNodeAt a w3 := (hb23.cell (p := ⟨0, 0, none⟩) (cell_lt he2)).trans he2
  have hH23 := Lib.hid (hH2.below hb23)
  have B3 := Lib.hid (B2.out.trans (hb23.mono B2.out.size))
  have H3 := Lib.hid (kidOf_any shT 1 A3 c3 a w3 hH3 sh_int q3 (by decide) he3)
  rw [show shT.length = 3 from rfl] at H3
  clear HI hN3 hm3 hb3 hb23 hH12 hH2
  go_wp2_with fail
  refine H3.out.mono ?_
  rintro e w4 ⟨h4, hb4⟩
  rw [sh_k] at h4
  obtain ⟨v4, L4, rfl, hN4, hm4⟩ := h4
  obtain ⟨A4, c4, rfl, hH4, q4⟩ := hN4.opened hm4 (n := 1) rfl
  have he4 : errNodeAt a w4 := (hb4.cell (p := ⟨0, 0, none⟩) (cell_lt he3)).trans he3
  have hH24 := Lib.hid (hH23.out.below hb4)
  have hH34 := Lib.hid (hH3.below hb4)
  have B4 := Lib.hid (B3.out.trans (hb4.mono B3.out.size))
  have H4 := Lib.hid (leaf_any 6 ⟨#[]⟩ a w4 (by decide) (by decide) he4)
  clear H3 hN4 hm4 hb4 hH23 hH3
  go_wp2_with fail
  refine H4.out.mono ?_
  rintro e w5 ⟨h5, hb5⟩
  rw [sh_n] at h5
  simp only at h5
  subst h5
  have hH25 := Lib.hid (hH24.out.below hb5)
  have hH35 := Lib.hid (hH34.out.below hb5)
  have hH45 := Lib.hid (hH4.below hb5)
  have B5 := Lib.hid (B4.out.trans (hb5.mono B4.out.size))
  have H5 := Lib.hid (showAll_any shT A3 c3 w5 hH35.out sh_int)
  rw [show shT.length = 3 from rfl, sh_s] at H5
  clear H4 hb5 hH24 hH34 hH4
  go_wp2_with fail
  refine H5.out.mono ?_
  rintro e w6 ⟨rfl, hb6⟩
  have hH36 := Lib.hid (hH35.out.below hb6)
  have B6 := Lib.hid (B5.out.trans (hb6.mono B5.out.size))
  have H6 := Lib.hid (refSame_any shB shB A4 A2 c4 c2 w6 (by decide) (by decide) (hH45.out.below hb6) (hH25.out.below hb6) sh_intB sh_intB)
  rw [show shB.length = 1 from rfl, decide_eq_true (rfl : shB = shB)] at H6
  clear H5 hb6 hH35 hH25 hH45
  go_wp2_with fail
  refine H6.out.mono ?_
  rintro e w7 ⟨rfl, hb7⟩
  have hH37 := Lib.hid (hH36.out.below hb7)
  have B7 := Lib.hid (B6.out.trans (hb7.mono B6.out.size))
  have H7 := Lib.hid (deep_any shT A3 c3 w7 hH37.out sh_int)
  rw [show shT.length = 3 from rfl, sh_d] at H7
  clear H6 hb7 hH36
  go_wp2_with fail
  refine H7.out.mono ?_
  rintro e w8 ⟨rfl, hb8⟩
  have H8 := Lib.hid (right_any shT A3 c3 w8 (hH37.out.below hb8) sh_int)
  rw [show shT.length = 3 from rfl, sh_r] at H8
  have B8 := Lib.hid (B7.out.trans (hb8.mono B7.out.size))
  clear H7 hb8 hH37
  go_wp2_with fail
  refine H8.out.mono ?_
  rintro e w9 ⟨rfl, hb9⟩
  have B9 := Lib.hid (B8.out.trans (hb9.mono B8.out.size))
  go_wp2_with fail
  go_ret
  exact ⟨rfl, B9.out⟩
end Go.Proofs.YtbcgdkhkljeomaaDoor
