/-
  The walk of a lexer's step: glyphs that are tokens.
-/
import Derived.Test.YteojnejomgomjaaDoorProg
import Derived.Test.YteojnejomgomjaaDoorReg
import Derived.WalkKit
import Derived.WalkSpells
import Derived.WalkLawsBesides
import Derived.Lib.Hide
import Derived.Lib.MinMax
import Derived.Deep.QuietTactic
import Derived.BigQuiet
import Derived.OwnWalk
import Derived.Deep.AppendLies
import Derived.KernelRfl
import Derived.Test.YteojnejomgomjaaDoorRegZ
import Derived.Test.YteojnejomgomjaaDoorMapI
import Derived.Test.YteojnejomgomjaaDoorLxB
set_option linter.unusedSimpArgs false
set_option linter.unusedVariables false
namespace Go.Proofs.YteojnejomgomjaaDoor
open Go.RowKit Go.Maps

def signOf (c : Int) : Option Int := if c = 4 then some 9 else if c = 3 then some 8 else if c = 2 then some 7 else if c = 1 then some 6 else none
def tSign (s : ByteArray) : Tok := match signOf (gClass (gFirst s).1) with
  | some k => ⟨k, s.extract 0 (gFirst s).2, (gFirst s).1⟩
  | none => noTok
theorem classIn_range {g : ByteArray} : ∀ (l : List Gly), (∀ x ∈ l, 1 ≤ x.cls ∧ x.cls ≤ 6) → 0 ≤ classIn g l ∧ classIn g l ≤ 6
  | [], _ => ⟨Int.le_refl 0, show (0 : Int) ≤ 6 by decide⟩
  | x :: l, h => by
    have hx := h x List.mem_cons_self
    unfold classIn
    split
    · exact ⟨by omega, hx.2⟩
    · exact classIn_range l (fun y hy => h y (List.mem_cons_of_mem _ hy))
theorem wf_small {k : Int} (h1 : -1000000000 ≤ k) (h2 : k ≤ 1000000000) : (Lit.int .i64 k).wf = true := by
  have e1 : IntKind.i64.min = -9223372036854775808 := by decide
  have e2 : IntKind.i64.max = 9223372036854775807 := by decide
  simp [Lit.wf, e1, e2]
  omega
theorem gClass_range (g : ByteArray) : 0 ≤ gClass g ∧ gClass g ≤ 6 := classIn_range glyphs (by decide +kernel)
theorem zeroI (w : World) : (zeroValue 3).run Tryd.prog w = .ok (.int .i64 0) w := by kernel_rfl
def lookSign : Int → Option Value := fun c => if c = 4 then some (.int .i64 9) else if c = 3 then some (.int .i64 8) else if c = 2 then some (.int .i64 7) else if c = 1 then some (.int .i64 6) else none
theorem lookSign_eq (c : Int) : lookSign c = (signOf c).map (Value.int .i64) := by
  unfold lookSign signOf
  split
  · rfl
  · split
    · rfl
    · split
      · rfl
      · split
        · rfl
        · rfl

set_option maxRecDepth 100000 in
set_option maxHeartbeats 8000000 in
theorem sign_any (X : Nat) (s : ByteArray) (w : World) (hL : LexAt w X s) (hs : s.size ≤ 1000000) :
    Calls Tryd.prog 29 #[.pointer (some ⟨X, 0, none⟩)] w fun e w' => e = .returned (tSign s).val ∧ Below w.heap.size w w' := by
  have hB0 := below_new w (.cells zTok tK)
  have hX0 := heap_alloc_new w (.cells zTok tK)
  have hz0 : (w.alloc (.cells zTok tK)).heap.size = w.heap.size + 1 := by simp
  have hL0 := hL.below hB0
  have hmm := @run_makeMap Tryd.prog
  have hk := Tryd.underlying3
  have hmt := Tryd.underlying66
  obtain ⟨w1, r1, m1, g1⟩ := (MapIsI.made (w.alloc (.cells zTok tK)) Tryd.prog 3).put hk hmt (by unfold maxLen; omega) 1 (by decide) (.int .i64 6)
  obtain ⟨w2, r2, m2, g2⟩ := m1.put hk hmt (by unfold maxLen; omega) 2 (by decide) (.int .i64 7)
  obtain ⟨w3, r3, m3, g3⟩ := m2.put hk hmt (by unfold maxLen; omega) 3 (by decide) (.int .i64 8)
  obtain ⟨w4, r4, m4, g4⟩ := m3.put hk hmt (by unfold maxLen; omega) 4 (by decide) (.int .i64 9)
  have hB4 : Below (w.heap.size + 1) (w.alloc (.cells zTok tK)) w4 := by
    have h0 : Below (w.heap.size + 1) (w.alloc (.cells zTok tK)) ((w.alloc (.cells zTok tK)).alloc (.map #[] 0)) := (Below.refl _ _).alloc (by omega) _
    have st : ∀ {u v : World}, Below (w.heap.size + 1) (w.alloc (.cells zTok tK)) u → u.grownBy v (some (w.alloc (.cells zTok tK)).heap.size) → Below (w.heap.size + 1) (w.alloc (.cells zTok tK)) v := fun hu hg => hu.grown hg (by have := hu.size; omega) (fun k hk => by cases hk; omega)
    exact st (st (st (st h0 g1) g2) g3) g4
  rw [hz0] at m4
  have hL4 := (hB4.block X (by have := hL.lt; omega)).trans hL0
  have hX4 := (hB4.block w.heap.size (by omega)).trans hX0
  rw [hz0] at r1 r2 r3 r4
  have hcl := gClass_range (gFirst s).1
  have hg3 := gFirst_glyph s
  have hn := gFirst_size s
  have HE : Hid (tSign s = match signOf (gClass (gFirst s).1) with
    | some k => ⟨k, s.extract 0 (gFirst s).2, (gFirst s).1⟩
    | none => noTok) := Lib.hid rfl
  have HW := Lib.hid (class_any (gFirst s).1 w4 (by unfold maxLen; omega))
  have HM := Lib.hid m4
  clear m1 m2 m3 m4 g1 g2 g3 g4 hL hL0
  generalize gClass (gFirst s).1 = cl at *
  generalize (gFirst s).1 = g at *
  generalize (gFirst s).2 = n at *
  have c4 : w4.cell? ⟨X, 1, none⟩ = some (.string g) := by simp [World.cell?, hL4]
  have hcw : (Lit.int .i64 cl).wf = true := wf_small (by omega) (by omega)
  have hlw : ∀ v : World, Below w4.heap.size w4 v → (Instr.lookup 66 (.map (some (w.heap.size + 1))) (.int .i64 cl) true).run Tryd.prog v = .ok (.tuple #[(lookSign cl).getD (.int .i64 0), .bool (lookSign cl).isSome]) v := fun v hv => (HM.out.below hv).get true hk hmt (zeroI v) cl hcw
  rw [lookSign_eq] at hlw
  have HLW := Lib.hid hlw
  clear hlw hcw
  cases hsg : signOf cl with
  | none =>
    rw [hsg] at HE HLW
    clear hsg
    simp only at HE
    go_enter Tryd.func29, Tryd.ntmps29
    go_wp2_with fail
    refine HW.out.mono ?_
    rintro e w5 ⟨rfl, hb5⟩
    have hlk := HLW.out w5 hb5
    simp only [Option.map_none, Option.getD_none, Option.isSome_none] at hlk
    have hB5 : Below w.heap.size w w5 := hB0.trans ((hB4.mono (by omega)).trans (hb5.mono (by have := hB4.size; omega)))
    have hX5 := (hb5.block w.heap.size (by have := hB4.size; omega)).trans hX4
    have x0_hX5 : w5.cell? ⟨w.heap.size, 0, none⟩ = some (.int .i64 0) := by simp [World.cell?, hX5]
    have x1_hX5 : w5.cell? ⟨w.heap.size, 1, none⟩ = some (.string ⟨#[]⟩) := by simp [World.cell?, hX5]
    have x2_hX5 : w5.cell? ⟨w.heap.size, 2, none⟩ = some (.string ⟨#[]⟩) := by simp [World.cell?, hX5]
    have z_hX5 : ∀ j, w5.frozen? ⟨w.heap.size, j, none⟩ = false := fun j => frozen_of_row w5 _ j _ _ hX5
    clear HW HLW hb5 hX4 hL4 c4 r1 r2 r3 r4 hX0 hmm
    go_wp2_with fail
    have hR9 := set3 (b1 := .int .i64 0) (b2 := .string (ByteArray.mk #[])) (b3 := .string (ByteArray.mk #[])) hX5
    have hB9 := ((hB5.setCell (p := ⟨w.heap.size, 0, none⟩) (Nat.le_refl _) (.int .i64 0)).setCell (p := ⟨w.heap.size, 1, none⟩) (Nat.le_refl _) (.string (ByteArray.mk #[]))).setCell (p := ⟨w.heap.size, 2, none⟩) (Nat.le_refl _) (.string (ByteArray.mk #[]))
    generalize (((w5.setCell ⟨w.heap.size, 0, none⟩ (.int .i64 0)).setCell ⟨w.heap.size, 1, none⟩ (.string (ByteArray.mk #[]))).setCell ⟨w.heap.size, 2, none⟩ (.string (ByteArray.mk #[]))) = W9 at *
    have y0 : W9.cell? ⟨w.heap.size, 0, none⟩ = some (.int .i64 0) := by simp [World.cell?, hR9]
    have y1 : W9.cell? ⟨w.heap.size, 1, none⟩ = some (.string (ByteArray.mk #[])) := by simp [World.cell?, hR9]
    have y2 : W9.cell? ⟨w.heap.size, 2, none⟩ = some (.string (ByteArray.mk #[])) := by simp [World.cell?, hR9]
    exact bodyPost_ret (v := .agg #[.int .i64 0, .string (ByteArray.mk #[]), .string (ByteArray.mk #[])]) (by simp [results, Tryd.results29, go_sem, y0, y1, y2]) rfl ⟨by rw [HE.out]; rfl, hB9⟩
  | some k =>
    rw [hsg] at HE HLW
    clear hsg
    simp only at HE
    go_enter Tryd.func29, Tryd.ntmps29
    go_wp2_with fail
    refine HW.out.mono ?_
    rintro e w5 ⟨rfl, hb5⟩
    have hlk := HLW.out w5 hb5
    simp only [Option.map_some, Option.getD_some, Option.isSome_some] at hlk
    have hB5 : Below w.heap.size w w5 := hB0.trans ((hB4.mono (by omega)).trans (hb5.mono (by have := hB4.size; omega)))
    have hX5 := (hb5.block w.heap.size (by have := hB4.size; omega)).trans hX4
    have hL5 := (hb5.block X (Array.getElem?_eq_some_iff.1 hL4).1).trans hL4
    have d0 : w5.cell? ⟨X, 0, none⟩ = some (.string s) := by simp [World.cell?, hL5]
    have d1 : w5.cell? ⟨X, 1, none⟩ = some (.string g) := by simp [World.cell?, hL5]
    have d2 : w5.cell? ⟨X, 2, none⟩ = some (.int .i64 (n : Int)) := by simp [World.cell?, hL5]
    have HT := Lib.hid (token_any X s g k n w5.drew d0 hn hs)
    have hX5s : X < w5.heap.size := (Array.getElem?_eq_some_iff.1 hL5).1
    clear HW HLW hb5 hX4 hL4 c4 r1 r2 r3 r4 hX0 hmm
    go_wp2_with fail
    refine wp_region_ordz (S := fun w' => w'.cell? ⟨X, 2, none⟩ = some (.int .i64 (n : Int)) ∧ w'.cell? ⟨X, 1, none⟩ = some (.string g)) [0, 1, 2, 3, 4, 5, 6, 7, 8, 9] [10, 11] 11 (by kernel_rfl) (by kernel_rfl) (fun _ _ _ _ _ h => h) ⟨d2, d1⟩ ?_
    simp only [pick, List.filterMap_cons, List.filterMap_nil, List.getElem?_toArray, List.getElem?_cons_zero, List.getElem?_cons_succ]
    repeat (refine wpHead_step (v := ?_) rfl ?_ ?_; rotate_left; (focus (rintro w1 ⟨d2', d1'⟩; go_simp; try with_reducible rfl)); simp only [Act.put, List.setIfInBounds_toArray, List.set_cons_zero, List.set_cons_succ])
    refine wpHead_nil ?_
    refine wpTailZ_step rfl (fun K hK => ?_)
    go_wp2_with fail
    refine HT.out.mono ?_
    rintro e w6 ⟨rfl, hb6⟩
    have hB6 : Below w.heap.size w w6 := hB5.trans (((Below.refl _ w5).drew).trans (hb6.mono hB5.size))
    have hX6 := (hb6.block w.heap.size (Array.getElem?_eq_some_iff.1 hX5).1).trans hX5
    have f1 := (hb6.cell (p := ⟨X, 1, none⟩) hX5s).trans d1
    have f2 := (hb6.cell (p := ⟨X, 2, none⟩) hX5s).trans d2
    have x0_hX6 : w6.cell? ⟨w.heap.size, 0, none⟩ = some (.int .i64 0) := by simp [World.cell?, hX6]
    have x1_hX6 : w6.cell? ⟨w.heap.size, 1, none⟩ = some (.string ⟨#[]⟩) := by simp [World.cell?, hX6]
    have x2_hX6 : w6.cell? ⟨w.heap.size, 2, none⟩ = some (.string ⟨#[]⟩) := by simp [World.cell?, hX6]
    have z_hX6 : ∀ j, w6.frozen? ⟨w.heap.size, j, none⟩ = false := fun j => frozen_of_row w6 _ j _ _ hX6
    clear HT hb6 hX5
    go_wp2_with fail
    refine hK _ _ ⟨f2, f1⟩ ?_
    clear hK K
    try simp only [Act.put, List.setIfInBounds_toArray, List.set_cons_zero, List.set_cons_succ]
    refine wpTailZ_last rfl (fun K hK => ?_)
    go_wp2_with fail
    have hR9 := set3 (b1 := .int .i64 k) (b2 := .string (s.extract 0 n)) (b3 := .string g) hX6
    have hB9 := ((hB6.setCell (p := ⟨w.heap.size, 0, none⟩) (Nat.le_refl _) (.int .i64 k)).setCell (p := ⟨w.heap.size, 1, none⟩) (Nat.le_refl _) (.string (s.extract 0 n))).setCell (p := ⟨w.heap.size, 2, none⟩) (Nat.le_refl _) (.string g)
    generalize (((w6.setCell ⟨w.heap.size, 0, none⟩ (.int .i64 k)).setCell ⟨w.heap.size, 1, none⟩ (.string (s.extract 0 n))).setCell ⟨w.heap.size, 2, none⟩ (.string g)) = W9 at *
    have y0 : W9.cell? ⟨w.heap.size, 0, none⟩ = some (.int .i64 k) := by simp [World.cell?, hR9]
    have y1 : W9.cell? ⟨w.heap.size, 1, none⟩ = some (.string (s.extract 0 n)) := by simp [World.cell?, hR9]
    have y2 : W9.cell? ⟨w.heap.size, 2, none⟩ = some (.string g) := by simp [World.cell?, hR9]
    exact bodyPost_ret (v := .agg #[.int .i64 k, .string (s.extract 0 n), .string g]) (by simp [results, Tryd.results29, go_sem, y0, y1, y2]) rfl ⟨by rw [HE.out]; rfl, hB9⟩
end Go.Proofs.YteojnejomgomjaaDoor
