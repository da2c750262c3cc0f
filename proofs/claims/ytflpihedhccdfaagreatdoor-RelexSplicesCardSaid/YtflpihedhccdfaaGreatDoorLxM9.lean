/-
  The walk of a lexer's step: glyphs that are tokens.
-/
import Derived.Test.YtflpihedhccdfaaGreatDoorProg
import Derived.Test.YtflpihedhccdfaaGreatDoorReg
import Derived.WalkKit
import Derived.WalkSpells
import Derived.WalkLawsBesides
import Derived.Lib.Hide
import Derived.Lib.MinMax
import Derived.Deep.QuietTactic
import Derived.BigQuiet
import Derived.OwnWalk
import Derived.Deep.AppendLies
import Derived.KernelRfl
import Derived.Test.YtflpihedhccdfaaGreatDoorRegZ
import Derived.Test.YtflpihedhccdfaaGreatDoorMapI
import Derived.Test.YtflpihedhccdfaaGreatDoorLxM8
import Derived.Lib.TrimByte
import Derived.Test.YtflpihedhccdfaaGreatDoorLxM1
set_option linter.unusedSimpArgs false
set_option linter.unusedVariables false
namespace Go.Proofs.YtflpihedhccdfaaGreatDoor
open Go.RowKit Go.Maps

def signOf (c : Int) : Option Int := if c = 4 then some 9 else if c = 3 then some 8 else if c = 2 then some 7 else if c = 1 then some 6 else none
def tSign (s : ByteArray) : Tok := match signOf (gClass (gFirst s).1) with
  | some k => ⟨k, s.extract 0 (gFirst s).2, (gFirst s).1⟩
  | none => noTok
theorem classIn_range {g : ByteArray} : ∀ (l : List Gly), (∀ x ∈ l, 1 ≤ x.cls ∧ x.cls ≤ 6) → 0 ≤ classIn g l ∧ classIn g l ≤ 6
  | [], _ => ⟨Int.le_refl 0, show (0 : Int) ≤ 6 by decide⟩
  | x :: l, h => by
    have hx := h x List.mem_cons_self
    unfold classIn
    split
    · exact ⟨by omega, hx.2⟩
    · exact classIn_range l (fun y hy => h y (List.mem_cons_of_mem _ hy))
theorem wf_small {k : Int} (h1 : -1000000000 ≤ k) (h2 : k ≤ 1000000000) : (Lit.int .i64 k).wf = true := by
  have e1 : IntKind.i64.min = -9223372036854775808 := by decide
  have e2 : IntKind.i64.max = 9223372036854775807 := by decide
  simp [Lit.wf, e1, e2]
  omega
theorem gClass_range (g : ByteArray) : 0 ≤ gClass g ∧ gClass g ≤ 6 := classIn_range glyphs (by decide +kernel)
theorem zeroI (w : World) : (zeroValue 3).run Tryz.prog w = .ok (.int .i64 0) w := by kernel_rfl
def lookSign : Int → Option Value := fun c => if c = 4 then some (.int .i64 9) else if c = 3 then some (.int .i64 8) else if c = 2 then some (.int .i64 7) else if c = 1 then some (.int .i64 6) else none
theorem lookSign_eq (c : Int) : lookSign c = (signOf c).map (Value.int .i64) := by
  unfold lookSign signOf
  split
  · rfl
  · split
    · rfl
    · split
      · rfl
      · split
        · rfl
        · rfl

set_option maxRecDepth 100000 in
set_option maxHeartbeats 8000000 in
theorem sign_any (X : Nat) (s : ByteArray) (w : World) (hL : LexAt w X s) (hs : s.size ≤ 1000000) :
    Calls Tryz.prog 84 #[.pointer (some ⟨X, 0, none⟩)] w fun e w' => e = .returned (tSign s).val ∧ Below w.heap.size w w' := by
  have hB0 := below_new w (.cells zTok tK)
  have hX0 := heap_alloc_new w (.cells zTok tK)
  have hz0 : (w.alloc (.cells zTok tK)).heap.size = w.heap.size + 1 := by simp
  have hL0 := hL.below hB0
  have hmm := @run_makeMap Tryz.prog
  have hk := Tryz.underlying3
  have hmt := Tryz.underlying160
  obtain ⟨w1, r1, m1, g1⟩ := (MapIsI.made (w.alloc (.cells zTok tK)) Tryz.prog 3).put hk hmt (by unfold maxLen; omega) 1 (by decide) (.int .i64 6)
  obtain ⟨w2, r2, m2, g2⟩ := m1.put hk hmt (by unfold maxLen; omega) 2 (by decide) (.int .i64 7)
  obtain ⟨w3, r3, m3, g3⟩ := m2.put hk hmt (by unfold maxLen; omega) 3 (by decide) (.int .i64 8)
  obtain ⟨w4, r4, m4, g4⟩ := m3.put hk hmt (by unfold maxLen; omega) 4 (by decide) (.int .i64 9)
  have hB4 : Below (w.heap.size + 1) (w.alloc (.cells zTok tK)) w4 := by
    have h0 : Below (w.heap.size + 1) (w.alloc (.cells zTok tK)) ((w.alloc (.cells zTok tK)).alloc (.map #[] 0)) := (Below.refl _ _).alloc (by omega) _
    have st : ∀ {u v : World}, Below (w.heap.size + 1) (w.alloc (.cells zTok tK)) u → u.grownBy v (some (w.alloc (.cells zTok tK)).heap.size) → Below (w.heap.size + 1) (w.alloc (.cells zTok tK)) v := fun hu hg => hu.grown hg (by have := hu.size; omega) (fun k hk => by cases hk; omega)
    exact st (st (st (st h0 g1) g2) g3) g4
  rw [hz0] at m4
  have hL4 := (hB4.block X (by have := hL.lt; omega)).trans hL0
  have hX4 := (hB4.block w.heap.size (by omega)).trans hX0
  rw [hz0] at r1 r2 r3 r4
  have hcl := gClass_range (gFirst s).1
  have hg3 := gFirst_glyph s
  have hn := gFirst_size s
  have HE : Hid (tSign s = match signOf (gClass (gFirst s).1) with
    | some k => ⟨k, s.extract 0 (gFirst s).2, (gFirst s).1⟩
    | none => noTok) := Lib.hid rfl
  have HW := Lib.hid (class_any (gFirst s).1 w4 (by unfold maxLen; omega))
  have HM := Lib.hid m4
  clear m1 m2 m3 m4 g1 g2 g3 g4 hL hL0
  generalize gClass (gFirst s).1 = cl at *
  generalize (gFirst s).1 = g at *
  generalize (gFirst s).2 = n at *
  have c4 : w4.cell? ⟨X, 1, none⟩ = some (.string g) := by simp [World.cell?, hL4]
  have hcw : (Lit.int .i64 cl).wf = true := wf_small (by omega) (by omega)
  have hlw : ∀ v : World, Below w4.heap.size w4 v → (Instr.lookup 160 (.map (some (w.heap.size + 1))) (.int .i64 cl) true).run Tryz.prog v = .ok (.tuple #[(lookSign cl).getD (.int .i64 0), .bool (lookSign cl).isSome]) v := fun v hv => (HM.out.below hv).get true hk hmt (zeroI v) cl hcw
  rw [lookSign_eq] at hlw
  have HLW := Lib.hid hlw
  clear hlw hcw
  cases hsg : signOf cl with
  | none =>
    rw [hsg] at HE HLW
    clear hsg
    simp only at HE
    go_enter Tryz.func84, Tryz.ntmps84
    go_wp2_with fail
    refine HW.out.mono ?_
    rintro e w5 ⟨rfl, hb5⟩
    have hlk := HLW.out w5 hb5
    simp only [Option.map_none, Option.getD_none, Option.isSome_none] at hlk
    have hB5 : Below w.heap.size w w5 := hB0.trans ((hB4.mono (by omega)).trans (hb5.mono (by have := hB4.size; omega)))
    have hX5 := (hb5.block w.heap.size (by have := hB4.size; omega)).trans hX4
    have x0_hX5 : w5.cell? ⟨w.heap.size, 0, none⟩ = some (.int .i64 0) := by simp [World.cell?, hX5]
    have x1_hX5 : w5.cell? ⟨w.heap.size, 1, none⟩ = some (.string ⟨#[]⟩) := by simp [World.cell?, hX5]
    have x2_hX5 : w5.cell? ⟨w.heap.size, 2, none⟩ = some (.string ⟨#[]⟩) := by simp [World.cell?, hX5]
    have z_hX5 : ∀ j, w5.frozen? ⟨w.heap.size, j, none⟩ = false := fun j => frozen_of_row w5 _ j _ _ hX5
    clear HW HLW hb5 hX4 hL4 c4 r1 r2 r3 r4 hX0 hmm
    go_wp2_with fail
    have hR9 := set3 (b1 := .int .i64 0) (b2 := .string (ByteArray.mk #[])) (b3 := .string (ByteArray.mk #[])) hX5
    have hB9 := ((hB5.setCell (p := ⟨w.heap.size, 0, none⟩) (Nat.le_refl _) (.int .i64 0)).setCell (p := ⟨w.heap.size, 1, none⟩) (Nat.le_refl _) (.string (ByteArray.mk #[]))).setCell (p := ⟨w.heap.size, 2, none⟩) (Nat.le_refl _) (.string (ByteArray.mk #[]))
    generalize (((w5.setCell ⟨w.heap.size, 0, none⟩ (.int .i64 0)).setCell ⟨w.heap.size, 1, none⟩ (.string (ByteArray.mk #[]))).setCell ⟨w.heap.size, 2, none⟩ (.string (ByteArray.mk #[]))) = W9 at *
    have y0 : W9.cell? ⟨w.heap.size, 0, none⟩ = some (.int .i64 0) := by simp [World.cell?, hR9]
    have y1 : W9.cell? ⟨w.heap.size, 1, none⟩ = some (.string (ByteArray.mk #[])) := by simp [World.cell?, hR9]
    have y2 : W9.cell? ⟨w.heap.size, 2, none⟩ = some (.string (ByteArray.mk #[])) := by simp [World.cell?, hR9]
    exact bodyPost_ret (v := .agg #[.int .i64 0, .string (ByteArray.mk #[]), .string (ByteArray.mk #[])]) (by simp [results, Tryz.results84, go_sem, y0, y1, y2]) rfl ⟨by rw [HE.out]; rfl, hB9⟩
  | some k =>
    rw [hsg] at HE HLW
    clear hsg
    simp only at HE
    go_enter Tryz.func84, Tryz.ntmps84
    go_wp2_with fail
    refine HW.out.mono ?_
    rintro e w5 ⟨rfl, hb5⟩
    have hlk := HLW.out w5 hb5
    simp only [Option.map_some, Option.getD_some, Option.isSome_some] at hlk
    have hB5 : Below w.heap.size w w5 := hB0.trans ((hB4.mono (by omega)).trans (hb5.mono (by have := hB4.size; omega)))
    have hX5 := (hb5.block w.heap.size (by have := hB4.size; omega)).trans hX4
    have hL5 := (hb5.block X (Array.getElem?_eq_some_iff.1 hL4).1).trans hL4
    have d0 : w5.cell? ⟨X, 0, none⟩ = some (.string s) := by simp [World.cell?, hL5]
    have d1 : w5.cell? ⟨X, 1, none⟩ = some (.string g) := by simp [World.cell?, hL5]
    have d2 : w5.cell? ⟨X, 2, none⟩ = some (.int .i64 (n : Int)) := by simp [World.cell?, hL5]
    have HT := Lib.hid (token_any X s g k n w5.drew d0 hn hs)
    have hX5s : X < w5.heap.size := (Array.getElem?_eq_some_iff.1 hL5).1
    clear HW HLW hb5 hX4 hL4 c4 r1 r2 r3 r4 hX0 hmm
    go_wp2_with fail
    refine wp_region_ordz (S := fun w' => w'.cell? ⟨X, 2, none⟩ = some (.int .i64 (n : Int)) ∧ w'.cell? ⟨X, 1, none⟩ = some (.string g)) [0, 1, 2, 3, 4, 5, 6, 7, 8, 9] [10, 11] 11 (by kernel_rfl) (by kernel_rfl) (fun _ _ _ _ _ h => h) ⟨d2, d1⟩ ?_
    simp only [pick, List.filterMap_cons, List.filterMap_nil, List.getElem?_toArray, List.getElem?_cons_zero, List.getElem?_cons_succ]
    repeat (refine wpHead_step (v := ?_) rfl ?_ ?_; rotate_left; (focus (rintro w1 ⟨d2', d1'⟩; go_simp; try with_reducible rfl)); simp only [Act.put, List.setIfInBounds_toArray, List.set_cons_zero, List.set_cons_succ])
    refine wpHead_nil ?_
    refine wpTailZ_step rfl (fun K hK => ?_)
    go_wp2_with fail
    refine HT.out.mono ?_
    rintro e w6 ⟨rfl, hb6⟩
    have hB6 : Below w.heap.size w w6 := hB5.trans (((Below.refl _ w5).drew).trans (hb6.mono hB5.size))
    have hX6 := (hb6.block w.heap.size (Array.getElem?_eq_some_iff.1 hX5).1).trans hX5
    have f1 := (hb6.cell (p := ⟨X, 1, none⟩) hX5s).trans d1
    have f2 := (hb6.cell (p := ⟨X, 2, none⟩) hX5s).trans d2
    have x0_hX6 : w6.cell? ⟨w.heap.size, 0, none⟩ = some (.int .i64 0) := by simp [World.cell?, hX6]
    have x1_hX6 : w6.cell? ⟨w.heap.size, 1, none⟩ = some (.string ⟨#[]⟩) := by simp [World.cell?, hX6]
    have x2_hX6 : w6.cell? ⟨w.heap.size, 2, none⟩ = some (.string ⟨#[]⟩) := by simp [World.cell?, hX6]
    have z_hX6 : ∀ j, w6.frozen? ⟨w.heap.size, j, none⟩ = false := fun j => frozen_of_row w6 _ j _ _ hX6
    clear HT hb6 hX5
    go_wp2_with fail
    refine hK _ _ ⟨f2, f1⟩ ?_
    clear hK K
    try simp only [Act.put, List.setIfInBounds_toArray, List.set_cons_zero, List.set_cons_succ]
    refine wpTailZ_last rfl (fun K hK => ?_)
    go_wp2_with fail
    have hR9 := set3 (b1 := .int .i64 k) (b2 := .string (s.extract 0 n)) (b3 := .string g) hX6
    have hB9 := ((hB6.setCell (p := ⟨w.heap.size, 0, none⟩) (Nat.le_refl _) (.int .i64 k)).setCell (p := ⟨w.heap.size, 1, none⟩) (Nat.le_refl _) (.string (s.extract 0 n))).setCell (p := ⟨w.heap.size, 2, none⟩) (Nat.le_refl _) (.string g)
    generalize (((w6.setCell ⟨w.heap.size, 0, none⟩ (.int .i64 k)).setCell ⟨w.heap.size, 1, none⟩ (.string (s.extract 0 n))).setCell ⟨w.heap.size, 2, none⟩ (.string g)) = W9 at *
    have y0 : W9.cell? ⟨w.heap.size, 0, none⟩ = some (.int .i64 k) := by simp [World.cell?, hR9]
    have y1 : W9.cell? ⟨w.heap.size, 1, none⟩ = some (.string (s.extract 0 n)) := by simp [World.cell?, hR9]
    have y2 : W9.cell? ⟨w.heap.size, 2, none⟩ = some (.string g) := by simp [World.cell?, hR9]
    exact bodyPost_ret (v := .agg #[.int .i64 k, .string (s.extract 0 n), .string g]) (by simp [results, Tryz.results84, go_sem, y0, y1, y2]) rfl ⟨by rw [HE.out]; rfl, hB9⟩
end Go.Proofs.YtflpihedhccdfaaGreatDoor
/-
  A number's token, plainly. No program here.
-/
namespace Go.Proofs.YtflpihedhccdfaaGreatDoor
open Go.RowKit

theorem noughts_one (c : UInt8) : noughts [c] = [c] := by rw [noughts.eq_def]; split <;> simp_all
theorem noughts_48 (c : UInt8) (l : List UInt8) : noughts (48 :: c :: l) = noughts (c :: l) := by rw [noughts.eq_def]; rfl
theorem noughts_no {a : UInt8} (h : a ≠ 48) (l : List UInt8) : noughts (a :: l) = a :: l := by
  rw [noughts.eq_def]
  split
  · rename_i h2
    simp at h2
    exact absurd h2.1 h
  · rfl
theorem noughts_snoc : ∀ (l : List UInt8) (c : UInt8), noughts (l ++ [c]) = l.dropWhile (· == 48) ++ [c]
  | [], c => noughts_one c
  | a :: l, c => by
    by_cases h : a = 48
    · subst h
      have ih := noughts_snoc l c
      have e : (48 :: l).dropWhile (· == (48 : UInt8)) = l.dropWhile (· == 48) := by rw [List.dropWhile_cons]; simp
      rw [e, ← ih]
      cases l with
      | nil => exact noughts_48 c []
      | cons b r => exact noughts_48 b (r ++ [c])
    · have e : (a :: l).dropWhile (· == (48 : UInt8)) = a :: l := by rw [List.dropWhile_cons]; simp [h]
      rw [e]
      exact noughts_no h (l ++ [c])
theorem num_text {s : ByteArray} {m n : Nat} (h : m + n + 1 ≤ s.size) :
    (⟨(Lib.trimLeftB (s.extract m (m + n)).data.toList 48).toArray⟩ : ByteArray) ++ s.extract (m + n) (m + n + 1) = ⟨(noughts (s.extract m (m + n + 1)).data.toList).toArray⟩ := by
  refine bytes_eq ?_
  have hl : m + n < s.data.toList.length := by rw [bytes_len]; omega
  rw [bytes_app, bytes_ext, bytes_ext, bytes_ext]
  have e1 : (s.data.toList.drop (m + n)).take (m + n + 1 - (m + n)) = [s.data.toList[m + n]] := by
    rw [show m + n + 1 - (m + n) = 1 by omega, List.drop_eq_getElem_cons hl]
    rfl
  have e2 : (s.data.toList.drop m).take (m + n + 1 - m) = (s.data.toList.drop m).take n ++ [s.data.toList[m + n]] := by
    rw [show m + n + 1 - m = n + 1 by omega, List.take_succ_eq_append_getElem (by rw [List.length_drop]; omega)]
    simp
  rw [e1, e2, noughts_snoc, show m + n - m = n by omega]
  unfold Lib.trimLeftB
  simp
def numMinus (s : ByteArray) : Nat := if gClass (gFirst s).1 = 5 then (gFirst s).2 else 0
def tNumber (s : ByteArray) : Tok := if numMinus s = 0 ∧ dDigits (s.extract (numMinus s) s.size) = 0 then ⟨0, noText, noText⟩ else dNumber s (numMinus s)
theorem numMinus_le (s : ByteArray) : numMinus s ≤ s.size := by
  unfold numMinus
  split
  · exact gFirst_size s
  · exact Nat.zero_le _
end Go.Proofs.YtflpihedhccdfaaGreatDoor
/-
  The walk of a lexer's step: numbers.
-/
namespace Go.Proofs.YtflpihedhccdfaaGreatDoor
open Go.RowKit Go.Maps

theorem toList_48 : (⟨#[48]⟩ : ByteArray).toList = [48] := by rw [ByteArray.toList_eq]

set_option maxRecDepth 100000 in
set_option maxHeartbeats 8000000 in
theorem number_any (X : Nat) (s : ByteArray) (w : World) (hL : LexAt w X s) (hs : s.size ≤ 1000000) :
    Calls Tryz.prog 82 #[.pointer (some ⟨X, 0, none⟩)] w fun e w' => e = .returned (tNumber s).val ∧ Below w.heap.size w w' := by
  have hB0 := below_new w (.cells zTok tK)
  have hX0 := heap_alloc_new w (.cells zTok tK)
  have hz0 : (w.alloc (.cells zTok tK)).heap.size = w.heap.size + 1 := by simp
  have hL0 := hL.below hB0
  have hg3 := gFirst_glyph s
  have HW := Lib.hid (class_any (gFirst s).1 (w.alloc (.cells zTok tK)) (by unfold maxLen; omega))
  have HM : Hid (numMinus s = if gClass (gFirst s).1 = 5 then (gFirst s).2 else 0) := Lib.hid rfl
  have hml := numMinus_le s
  have hnl := dDigits_le s hml
  have HE : Hid (tNumber s = if numMinus s = 0 ∧ dDigits (s.extract (numMinus s) s.size) = 0 then ⟨0, noText, noText⟩ else dNumber s (numMinus s)) := Lib.hid rfl
  have HC : Hid (∀ W : World, LexAt W X s → W.cell? ⟨X, 0, none⟩ = some (.string s) ∧ W.cell? ⟨X, 1, none⟩ = some (.string (gFirst s).1) ∧ W.cell? ⟨X, 2, none⟩ = some (.int .i64 ((gFirst s).2 : Int))) := Lib.hid (fun W h => h.cells)
  obtain ⟨c0, c1, c2⟩ := hL0.cells
  have HWD := Lib.hid (fun W b (h : W.cell? ⟨b, 0, none⟩ = some (.string (s.extract (numMinus s) s.size))) => whileDigit_any (s.extract (numMinus s) s.size) b 0 W (by rw [ByteArray.size_extract]; omega) h)
  have HD : Hid (dNumber s (numMinus s) = if 18 < dDigits (s.extract (numMinus s) s.size) ∨ dDigits (s.extract (numMinus s) s.size) = 0 then ⟨10, s.extract 0 (numMinus s + dDigits (s.extract (numMinus s) s.size)), noText⟩ else
      ⟨3, s.extract 0 (numMinus s + dDigits (s.extract (numMinus s) s.size)), if 0 < numMinus s ∧ (⟨(noughts (s.extract (numMinus s) (numMinus s + dDigits (s.extract (numMinus s) s.size))).data.toList).toArray⟩ : ByteArray) ≠ ⟨#[48]⟩ then ⟨#[194, 175]⟩ ++ (⟨(noughts (s.extract (numMinus s) (numMinus s + dDigits (s.extract (numMinus s) s.size))).data.toList).toArray⟩ : ByteArray) else (⟨(noughts (s.extract (numMinus s) (numMinus s + dDigits (s.extract (numMinus s) s.size))).data.toList).toArray⟩ : ByteArray)⟩) := Lib.hid rfl
  have HT := Lib.hid (fun kd g n W (h : W.cell? ⟨X, 0, none⟩ = some (.string s)) (hn : n ≤ s.size) => token_any X s g kd n W h hn hs)
  have hgp : gClass (gFirst s).1 = 5 → 0 < (gFirst s).2 := fun h => gFirst_pos (by rw [h]; decide)
  generalize (gFirst s).1 = g at *
  generalize gn : (gFirst s).2 = gnn at *
  generalize gClass g = cl at *
  generalize numMinus s = m at *
  generalize dDigits (s.extract m s.size) = n at *
  have HL := Lib.hid hL0
  clear hL0 hL gn
  have key : ∀ (b5 : Bool), (cl == 5) = b5 → m = (if b5 then gnn else 0) → (b5 = true → m ≠ 0) → Calls Tryz.prog 82 #[.pointer (some ⟨X, 0, none⟩)] w fun e w' => e = .returned (tNumber s).val ∧ Below w.heap.size w w' := by
    intro b5 hb5 hm hpos
    have HMm := Lib.hid hm
    clear hm
    cases b5 with
    | true =>
      simp only [if_true] at HMm
      obtain rfl := HMm.out
      have hm0 : ¬ m = 0 := hpos rfl
      go_enter Tryz.func82, Tryz.ntmps82
      go_wp2_with fail
      refine HW.out.mono ?_
      rintro e w1 ⟨rfl, hb1⟩
      have hL1 := HL.out.below hb1
      obtain ⟨d0, d1, d2⟩ := HC.out _ hL1
      have hB1 : Below w.heap.size w w1 := hB0.trans (hb1.mono (by omega))
      have hX1 := (hb1.block w.heap.size (by omega)).trans hX0
      clear c0 c1 c2
      go_wp2_with fail
      have hbA := below_new w1 (.cells #[.string (s.extract m s.size)] 150)
      have cA : (w1.alloc (.cells #[.string (s.extract m s.size)] 150)).cell? ⟨w1.heap.size, 0, none⟩ = some (.string (s.extract m s.size)) := by simp
      have HWA := Lib.hid (HWD.out _ _ cA)
      refine HWA.out.mono ?_
      rintro e w2 ⟨rfl, hb2⟩
      have hbB : Below w1.heap.size w1 w2 := hbA.trans (hb2.mono (by simp))
      have hL2 := hL1.below hbB
      obtain ⟨f0, _, _⟩ := HC.out _ hL2
      have hB2 : Below w.heap.size w w2 := hB1.trans (hbB.mono hB1.size)
      have hX2 := (hbB.block w.heap.size (Array.getElem?_eq_some_iff.1 hX1).1).trans hX1
      have x0_hX2 : w2.cell? ⟨w.heap.size, 0, none⟩ = some (.int .i64 0) := by simp [World.cell?, hX2]
      have x1_hX2 : w2.cell? ⟨w.heap.size, 1, none⟩ = some (.string ⟨#[]⟩) := by simp [World.cell?, hX2]
      have x2_hX2 : w2.cell? ⟨w.heap.size, 2, none⟩ = some (.string ⟨#[]⟩) := by simp [World.cell?, hX2]
      have z_hX2 : ∀ j, w2.frozen? ⟨w.heap.size, j, none⟩ = false := fun j => frozen_of_row w2 _ j _ _ hX2
      have hX2s : X < w2.heap.size := hL2.lt
      clear hbA cA HWA hb2 hbB hL1 d0 d1 d2 hb1 hX1 HW HWD hX0 HC HL
      by_cases hn : 18 < n ∨ n = 0
      · rw [if_pos hn] at HD
        have HT2 := Lib.hid (HT.out 10 ByteArray.empty (m + n) w2 f0 hnl)
        have HE2 : Hid (tNumber s = ⟨10, s.extract 0 (m + n), noText⟩) := Lib.hid (by rw [HE.out, if_neg (fun h => hm0 h.1), HD.out])
        clear HE HD HT hX2s
        rcases hn with hn | hn
        all_goals
          try subst hn
          go_wp2_with fail
          refine HT2.out.mono ?_
          rintro e w3 ⟨rfl, hb3⟩
          have hB3 : Below w.heap.size w w3 := hB2.trans (hb3.mono hB2.size)
          have hX3 := (hb3.block w.heap.size (Array.getElem?_eq_some_iff.1 hX2).1).trans hX2
          have x0_hX3 : w3.cell? ⟨w.heap.size, 0, none⟩ = some (.int .i64 0) := by simp [World.cell?, hX3]
          have x1_hX3 : w3.cell? ⟨w.heap.size, 1, none⟩ = some (.string ⟨#[]⟩) := by simp [World.cell?, hX3]
          have x2_hX3 : w3.cell? ⟨w.heap.size, 2, none⟩ = some (.string ⟨#[]⟩) := by simp [World.cell?, hX3]
          have z_hX3 : ∀ j, w3.frozen? ⟨w.heap.size, j, none⟩ = false := fun j => frozen_of_row w3 _ j _ _ hX3
          clear hX2 x0_hX2 x1_hX2 x2_hX2 z_hX2
          go_wp2_with fail
        · have hR9 := set3 (b1 := .int .i64 10) (b2 := .string (s.extract 0 (m + n))) (b3 := .string ByteArray.empty) hX3
          have hB9 := ((hB3.setCell (p := ⟨w.heap.size, 0, none⟩) (Nat.le_refl _) (.int .i64 10)).setCell (p := ⟨w.heap.size, 1, none⟩) (Nat.le_refl _) (.string (s.extract 0 (m + n)))).setCell (p := ⟨w.heap.size, 2, none⟩) (Nat.le_refl _) (.string ByteArray.empty)
          generalize (((w3.setCell ⟨w.heap.size, 0, none⟩ (.int .i64 10)).setCell ⟨w.heap.size, 1, none⟩ (.string (s.extract 0 (m + n)))).setCell ⟨w.heap.size, 2, none⟩ (.string ByteArray.empty)) = W9 at *
          have y0 : W9.cell? ⟨w.heap.size, 0, none⟩ = some (.int .i64 10) := by simp [World.cell?, hR9]
          have y1 : W9.cell? ⟨w.heap.size, 1, none⟩ = some (.string (s.extract 0 (m + n))) := by simp [World.cell?, hR9]
          have y2 : W9.cell? ⟨w.heap.size, 2, none⟩ = some (.string ByteArray.empty) := by simp [World.cell?, hR9]
          exact bodyPost_ret (v := .agg #[.int .i64 10, .string (s.extract 0 (m + n)), .string ByteArray.empty]) (by simp [results, Tryz.results82, go_sem, y0, y1, y2]) rfl ⟨by rw [HE2.out]; rfl, hB9⟩
        · have hR9 := set3 (b1 := .int .i64 10) (b2 := .string (s.extract 0 m)) (b3 := .string ByteArray.empty) hX3
          have hB9 := ((hB3.setCell (p := ⟨w.heap.size, 0, none⟩) (Nat.le_refl _) (.int .i64 10)).setCell (p := ⟨w.heap.size, 1, none⟩) (Nat.le_refl _) (.string (s.extract 0 m))).setCell (p := ⟨w.heap.size, 2, none⟩) (Nat.le_refl _) (.string ByteArray.empty)
          generalize (((w3.setCell ⟨w.heap.size, 0, none⟩ (.int .i64 10)).setCell ⟨w.heap.size, 1, none⟩ (.string (s.extract 0 m))).setCell ⟨w.heap.size, 2, none⟩ (.string ByteArray.empty)) = W9 at *
          have y0 : W9.cell? ⟨w.heap.size, 0, none⟩ = some (.int .i64 10) := by simp [World.cell?, hR9]
          have y1 : W9.cell? ⟨w.heap.size, 1, none⟩ = some (.string (s.extract 0 m)) := by simp [World.cell?, hR9]
          have y2 : W9.cell? ⟨w.heap.size, 2, none⟩ = some (.string ByteArray.empty) := by simp [World.cell?, hR9]
          exact bodyPost_ret (v := .agg #[.int .i64 10, .string (s.extract 0 m), .string ByteArray.empty]) (by simp [results, Tryz.results82, go_sem, y0, y1, y2]) rfl ⟨by rw [HE2.out]; rfl, hB9⟩
      · rw [if_neg hn] at HD
        obtain ⟨q, hq⟩ : ∃ q, n = q + 1 := ⟨n - 1, by omega⟩
        have hnt := num_text (s := s) (m := m) (n := q) (by omega)
        have hmq : m + q + 1 = m + n := by omega
        rw [hmq] at hnt
        rw [← hnt] at HD
        have HTr := Lib.hid (fun W => Lay_strings_TrimLeft_one (s.extract m (m + q)) 48 (by decide) W)
        have hsz : ((⟨(Lib.trimLeftB (s.extract m (m + q)).data.toList 48).toArray⟩ : ByteArray)).size ≤ 1000000 := by
          have h1 : (Lib.trimLeftB (s.extract m (m + q)).data.toList 48).length ≤ (s.extract m (m + q)).data.toList.length := (List.dropWhile_sublist _).length_le
          rw [bytes_len, ByteArray.size_extract] at h1
          show (Lib.trimLeftB (s.extract m (m + q)).data.toList 48).toArray.size ≤ 1000000
          simp only [List.size_toArray]
          omega
        clear hnt
        generalize (⟨(Lib.trimLeftB (s.extract m (m + q)).data.toList 48).toArray⟩ : ByteArray) = tr at *
        have hn0 : ¬ 18 < n := fun h => hn (.inl h)
        have hn1 : ((n : Int) == 0) = false := by simp; omega
        have hm1 : ((m : Int) == 0) = false := by simp; omega
        have hq1 : q ≤ 17 := by omega
        have hq2 : m + q < s.size := by omega
        have hQ := Lib.hid hq
        have hMQ := Lib.hid hmq
        clear hn hq hmq
        go_wp2_with fail
        have k0 : (0 : Int) ≤ (m : Int) := by omega
        have hqi : (n : Int) = (q : Int) + 1 := by have := hQ.out; omega
        have k1 : IntKind.i64.wrap ((m : Int) + (n : Int)) = (m : Int) + (n : Int) := IntWalk.i64_in _ (by omega)
        have k2 : IntKind.i64.wrap ((m : Int) + (n : Int) - 1) = (m : Int) + (q : Int) := by rw [IntWalk.i64_in _ (by omega)]; omega
        have k3 : (m : Int) ≤ (m : Int) + (q : Int) := by omega
        have k4 : (m : Int) + (q : Int) ≤ (s.size : Int) := by omega
        have k5 : ((m : Int) + (q : Int)).toNat = m + q := by omega
        have k6 : (m : Int) + (n : Int) ≤ (s.size : Int) := by omega
        have k7 : ((m : Int) + (n : Int)).toNat = m + n := by omega
        have k8 : (m : Int) + (q : Int) ≤ (m : Int) + (n : Int) := by omega
        have k9 : (0 : Int) ≤ (m : Int) + (q : Int) := by omega
        clear hqi
        refine wp_region_ord (S := fun w' => w'.cell? ⟨X, 0, none⟩ = some (.string s)) [0, 1, 2, 3, 4, 5, 6, 7, 8, 9, 10, 12, 13, 14, 15, 16, 17, 18, 19, 20, 21, 22, 23, 24] [11, 25, 26] (by kernel_rfl) (by kernel_rfl) (fun _ _ _ _ _ h => h) f0 ?_
        simp only [pick, List.filterMap_cons, List.filterMap_nil, List.getElem?_toArray, List.getElem?_cons_zero, List.getElem?_cons_succ]
        repeat (refine wpHead_step (v := ?_) rfl ?_ ?_; rotate_left; (focus (rintro w1 f0'; go_simp; try with_reducible rfl)); simp only [Act.put, List.setIfInBounds_toArray, List.set_cons_zero, List.set_cons_succ])
        refine wpHead_nil ?_
        clear k0 k1 k2 k3 k4 k5 k6 k7 k8 k9
        have k1 : IntKind.i64.wrap ((m : Int) + (n : Int)) = (m : Int) + (n : Int) := IntWalk.i64_in _ (by omega)
        have K1 := Lib.hid k1
        clear k1
        refine wpTail_step rfl (fun K hK => ?_)
        go_wp2_with fail
        refine (HTr.out _).mono ?_
        rintro e w3 ⟨rfl, rfl⟩
        go_wp2_with fail
        refine hK _ _ f0 ?_
        clear hK K
        try simp only [Act.put, List.setIfInBounds_toArray, List.set_cons_zero, List.set_cons_succ]
        have hds : (s.extract (m + q) (m + n)).size ≤ 1000000 := by rw [ByteArray.size_extract]; omega
        have hDs : (tr ++ s.extract (m + q) (m + n)).size ≤ 2000000 := by rw [ByteArray.size_append]; omega
        generalize s.extract (m + q) (m + n) = dl at *
        refine wpTail_step rfl (fun K hK => ?_)
        go_wp2_with fail
        refine hK _ _ f0 ?_
        clear hK K
        try simp only [Act.put, List.setIfInBounds_toArray, List.set_cons_zero, List.set_cons_succ]
        refine wpTail_step rfl (fun K hK => ?_)
        go_wp2_with fail
        refine hK _ _ f0 ?_
        clear hK K
        try simp only [Act.put, List.setIfInBounds_toArray, List.set_cons_zero, List.set_cons_succ]
        refine wpTail_nil ?_
        generalize hD : tr ++ dl = D at *
        clear hD
        have ft : (w2.drew).cell? ⟨X, 0, none⟩ = some (.string s) := f0
        have k6 : (m : Int) + (n : Int) ≤ (s.size : Int) := by omega
        by_cases h48 : D = ⟨#[48]⟩
        · have HE2 : Hid (tNumber s = ⟨3, s.extract 0 (m + n), D⟩) := Lib.hid (by rw [HE.out, if_neg (fun h => hm0 h.1), HD.out, if_neg (fun h => h.2 h48)])
          have q48 := bytes_beq_yes h48
          rw [toList_48] at q48
          have HT2 := Lib.hid (HT.out 3 D (m + n) w2.drew ft hnl)
          clear h48 HE HD HT
          go_wp2_with fail
          refine HT2.out.mono ?_
          rintro e w4 ⟨rfl, hb4⟩
          have hB4 : Below w.heap.size w w4 := hB2.trans (((Below.refl _ w2).drew).trans (hb4.mono hB2.size))
          have hX4 := (hb4.block w.heap.size (Array.getElem?_eq_some_iff.1 hX2).1).trans hX2
          have x0_hX4 : w4.cell? ⟨w.heap.size, 0, none⟩ = some (.int .i64 0) := by simp [World.cell?, hX4]
          have x1_hX4 : w4.cell? ⟨w.heap.size, 1, none⟩ = some (.string ⟨#[]⟩) := by simp [World.cell?, hX4]
          have x2_hX4 : w4.cell? ⟨w.heap.size, 2, none⟩ = some (.string ⟨#[]⟩) := by simp [World.cell?, hX4]
          have z_hX4 : ∀ j, w4.frozen? ⟨w.heap.size, j, none⟩ = false := fun j => frozen_of_row w4 _ j _ _ hX4
          clear hX2 x0_hX2 x1_hX2 x2_hX2 z_hX2
          go_wp2_with fail
          have hR9 := set3 (b1 := .int .i64 3) (b2 := .string (s.extract 0 (m + n))) (b3 := .string D) hX4
          have hB9 := ((hB4.setCell (p := ⟨w.heap.size, 0, none⟩) (Nat.le_refl _) (.int .i64 3)).setCell (p := ⟨w.heap.size, 1, none⟩) (Nat.le_refl _) (.string (s.extract 0 (m + n)))).setCell (p := ⟨w.heap.size, 2, none⟩) (Nat.le_refl _) (.string D)
          generalize (((w4.setCell ⟨w.heap.size, 0, none⟩ (.int .i64 3)).setCell ⟨w.heap.size, 1, none⟩ (.string (s.extract 0 (m + n)))).setCell ⟨w.heap.size, 2, none⟩ (.string D)) = W9 at *
          have y0 : W9.cell? ⟨w.heap.size, 0, none⟩ = some (.int .i64 3) := by simp [World.cell?, hR9]
          have y1 : W9.cell? ⟨w.heap.size, 1, none⟩ = some (.string (s.extract 0 (m + n))) := by simp [World.cell?, hR9]
          have y2 : W9.cell? ⟨w.heap.size, 2, none⟩ = some (.string D) := by simp [World.cell?, hR9]
          exact bodyPost_ret (v := .agg #[.int .i64 3, .string (s.extract 0 (m + n)), .string D]) (by simp [results, Tryz.results82, go_sem, y0, y1, y2]) rfl ⟨by rw [HE2.out]; rfl, hB9⟩
        · have HE2 : Hid (tNumber s = ⟨3, s.extract 0 (m + n), ⟨#[194, 175]⟩ ++ D⟩) := Lib.hid (by rw [HE.out, if_neg (fun h => hm0 h.1), HD.out, if_pos ⟨by omega, h48⟩])
          have q48 := bytes_beq_no h48
          rw [toList_48] at q48
          have HT2 := Lib.hid (HT.out 3 (⟨#[194, 175]⟩ ++ D) (m + n) w2.drew ft hnl)
          clear h48 HE HD HT
          go_wp2_with fail
          refine HT2.out.mono ?_
          rintro e w4 ⟨rfl, hb4⟩
          have hB4 : Below w.heap.size w w4 := hB2.trans (((Below.refl _ w2).drew).trans (hb4.mono hB2.size))
          have hX4 := (hb4.block w.heap.size (Array.getElem?_eq_some_iff.1 hX2).1).trans hX2
          have x0_hX4 : w4.cell? ⟨w.heap.size, 0, none⟩ = some (.int .i64 0) := by simp [World.cell?, hX4]
          have x1_hX4 : w4.cell? ⟨w.heap.size, 1, none⟩ = some (.string ⟨#[]⟩) := by simp [World.cell?, hX4]
          have x2_hX4 : w4.cell? ⟨w.heap.size, 2, none⟩ = some (.string ⟨#[]⟩) := by simp [World.cell?, hX4]
          have z_hX4 : ∀ j, w4.frozen? ⟨w.heap.size, j, none⟩ = false := fun j => frozen_of_row w4 _ j _ _ hX4
          clear hX2 x0_hX2 x1_hX2 x2_hX2 z_hX2
          go_wp2_with fail
          have hR9 := set3 (b1 := .int .i64 3) (b2 := .string (s.extract 0 (m + n))) (b3 := .string (ByteArray.mk #[194, 175] ++ D)) hX4
          have hB9 := ((hB4.setCell (p := ⟨w.heap.size, 0, none⟩) (Nat.le_refl _) (.int .i64 3)).setCell (p := ⟨w.heap.size, 1, none⟩) (Nat.le_refl _) (.string (s.extract 0 (m + n)))).setCell (p := ⟨w.heap.size, 2, none⟩) (Nat.le_refl _) (.string (ByteArray.mk #[194, 175] ++ D))
          generalize (((w4.setCell ⟨w.heap.size, 0, none⟩ (.int .i64 3)).setCell ⟨w.heap.size, 1, none⟩ (.string (s.extract 0 (m + n)))).setCell ⟨w.heap.size, 2, none⟩ (.string (ByteArray.mk #[194, 175] ++ D))) = W9 at *
          have y0 : W9.cell? ⟨w.heap.size, 0, none⟩ = some (.int .i64 3) := by simp [World.cell?, hR9]
          have y1 : W9.cell? ⟨w.heap.size, 1, none⟩ = some (.string (s.extract 0 (m + n))) := by simp [World.cell?, hR9]
          have y2 : W9.cell? ⟨w.heap.size, 2, none⟩ = some (.string (ByteArray.mk #[194, 175] ++ D)) := by simp [World.cell?, hR9]
          exact bodyPost_ret (v := .agg #[.int .i64 3, .string (s.extract 0 (m + n)), .string (ByteArray.mk #[194, 175] ++ D)]) (by simp [results, Tryz.results82, go_sem, y0, y1, y2]) rfl ⟨by rw [HE2.out]; rfl, hB9⟩
    | false =>
      simp only [Bool.false_eq_true, if_false] at HMm
      obtain rfl := HMm.out
      rw [Nat.zero_add] at hnl HD
      go_enter Tryz.func82, Tryz.ntmps82
      go_wp2_with fail
      refine HW.out.mono ?_
      rintro e w1 ⟨rfl, hb1⟩
      have hL1 := HL.out.below hb1
      obtain ⟨d0, d1, d2⟩ := HC.out _ hL1
      have hB1 : Below w.heap.size w w1 := hB0.trans (hb1.mono (by omega))
      have hX1 := (hb1.block w.heap.size (by omega)).trans hX0
      clear c0 c1 c2
      go_wp2_with fail
      have e0 : s.extract 0 s.size = s := ext_all s (Nat.le_refl _)
      rw [e0] at HWD
      have hbA := below_new w1 (.cells #[.string (s)] 150)
      have cA : (w1.alloc (.cells #[.string (s)] 150)).cell? ⟨w1.heap.size, 0, none⟩ = some (.string (s)) := by simp
      have HWA := Lib.hid (HWD.out _ _ cA)
      refine HWA.out.mono ?_
      rintro e w2 ⟨rfl, hb2⟩
      have hbB : Below w1.heap.size w1 w2 := hbA.trans (hb2.mono (by simp))
      have hL2 := hL1.below hbB
      obtain ⟨f0, _, _⟩ := HC.out _ hL2
      have hB2 : Below w.heap.size w w2 := hB1.trans (hbB.mono hB1.size)
      have hX2 := (hbB.block w.heap.size (Array.getElem?_eq_some_iff.1 hX1).1).trans hX1
      have x0_hX2 : w2.cell? ⟨w.heap.size, 0, none⟩ = some (.int .i64 0) := by simp [World.cell?, hX2]
      have x1_hX2 : w2.cell? ⟨w.heap.size, 1, none⟩ = some (.string ⟨#[]⟩) := by simp [World.cell?, hX2]
      have x2_hX2 : w2.cell? ⟨w.heap.size, 2, none⟩ = some (.string ⟨#[]⟩) := by simp [World.cell?, hX2]
      have z_hX2 : ∀ j, w2.frozen? ⟨w.heap.size, j, none⟩ = false := fun j => frozen_of_row w2 _ j _ _ hX2
      have hX2s : X < w2.heap.size := hL2.lt
      clear hbA cA HWA hb2 hbB hL1 d0 d1 d2 hb1 hX1 HW HWD hX0 HC HL
      by_cases hnz : n = 0
      · rw [if_pos ⟨trivial, hnz⟩] at HE
        clear HD HT hX2s e0
        have hz1 : ((n : Int) == 0) = true := by rw [hnz]; rfl
        clear hnz
        go_wp2_with fail
        have hR9 := set3 (b1 := .int .i64 0) (b2 := .string (ByteArray.mk #[])) (b3 := .string (ByteArray.mk #[])) hX2
        have hB9 := ((hB2.setCell (p := ⟨w.heap.size, 0, none⟩) (Nat.le_refl _) (.int .i64 0)).setCell (p := ⟨w.heap.size, 1, none⟩) (Nat.le_refl _) (.string (ByteArray.mk #[]))).setCell (p := ⟨w.heap.size, 2, none⟩) (Nat.le_refl _) (.string (ByteArray.mk #[]))
        generalize (((w2.setCell ⟨w.heap.size, 0, none⟩ (.int .i64 0)).setCell ⟨w.heap.size, 1, none⟩ (.string (ByteArray.mk #[]))).setCell ⟨w.heap.size, 2, none⟩ (.string (ByteArray.mk #[]))) = W9 at *
        have y0 : W9.cell? ⟨w.heap.size, 0, none⟩ = some (.int .i64 0) := by simp [World.cell?, hR9]
        have y1 : W9.cell? ⟨w.heap.size, 1, none⟩ = some (.string (ByteArray.mk #[])) := by simp [World.cell?, hR9]
        have y2 : W9.cell? ⟨w.heap.size, 2, none⟩ = some (.string (ByteArray.mk #[])) := by simp [World.cell?, hR9]
        exact bodyPost_ret (v := .agg #[.int .i64 0, .string (ByteArray.mk #[]), .string (ByteArray.mk #[])]) (by simp [results, Tryz.results82, go_sem, y0, y1, y2]) rfl ⟨by rw [HE.out]; rfl, hB9⟩
      have hz1 : ((n : Int) == 0) = false := by simp; omega
      rw [if_neg (fun h => hnz h.2)] at HE
      by_cases hn : 18 < n ∨ n = 0
      · rw [if_pos hn] at HD
        have HT2 := Lib.hid (HT.out 10 ByteArray.empty n w2 f0 hnl)
        have HE2 : Hid (tNumber s = ⟨10, s.extract 0 n, noText⟩) := Lib.hid (by rw [HE.out, HD.out])
        have hn18 : 18 < n := by omega
        clear HE HD HT hX2s hn hnz e0
        go_wp2_with fail
        refine HT2.out.mono ?_
        rintro e w3 ⟨rfl, hb3⟩
        have hB3 : Below w.heap.size w w3 := hB2.trans (hb3.mono hB2.size)
        have hX3 := (hb3.block w.heap.size (Array.getElem?_eq_some_iff.1 hX2).1).trans hX2
        have x0_hX3 : w3.cell? ⟨w.heap.size, 0, none⟩ = some (.int .i64 0) := by simp [World.cell?, hX3]
        have x1_hX3 : w3.cell? ⟨w.heap.size, 1, none⟩ = some (.string ⟨#[]⟩) := by simp [World.cell?, hX3]
        have x2_hX3 : w3.cell? ⟨w.heap.size, 2, none⟩ = some (.string ⟨#[]⟩) := by simp [World.cell?, hX3]
        have z_hX3 : ∀ j, w3.frozen? ⟨w.heap.size, j, none⟩ = false := fun j => frozen_of_row w3 _ j _ _ hX3
        clear hX2 x0_hX2 x1_hX2 x2_hX2 z_hX2
        go_wp2_with fail
        have hR9 := set3 (b1 := .int .i64 10) (b2 := .string (s.extract 0 n)) (b3 := .string ByteArray.empty) hX3
        have hB9 := ((hB3.setCell (p := ⟨w.heap.size, 0, none⟩) (Nat.le_refl _) (.int .i64 10)).setCell (p := ⟨w.heap.size, 1, none⟩) (Nat.le_refl _) (.string (s.extract 0 n))).setCell (p := ⟨w.heap.size, 2, none⟩) (Nat.le_refl _) (.string ByteArray.empty)
        generalize (((w3.setCell ⟨w.heap.size, 0, none⟩ (.int .i64 10)).setCell ⟨w.heap.size, 1, none⟩ (.string (s.extract 0 n))).setCell ⟨w.heap.size, 2, none⟩ (.string ByteArray.empty)) = W9 at *
        have y0 : W9.cell? ⟨w.heap.size, 0, none⟩ = some (.int .i64 10) := by simp [World.cell?, hR9]
        have y1 : W9.cell? ⟨w.heap.size, 1, none⟩ = some (.string (s.extract 0 n)) := by simp [World.cell?, hR9]
        have y2 : W9.cell? ⟨w.heap.size, 2, none⟩ = some (.string ByteArray.empty) := by simp [World.cell?, hR9]
        exact bodyPost_ret (v := .agg #[.int .i64 10, .string (s.extract 0 n), .string ByteArray.empty]) (by simp [results, Tryz.results82, go_sem, y0, y1, y2]) rfl ⟨by rw [HE2.out]; rfl, hB9⟩
      · rw [if_neg hn] at HD
        obtain ⟨q, hq⟩ : ∃ q, n = q + 1 := ⟨n - 1, by omega⟩
        have hnt := num_text (s := s) (m := 0) (n := q) (by omega)
        have hmq : q + 1 = n := by omega
        rw [Nat.zero_add, hmq] at hnt
        rw [← hnt] at HD
        have HTr := Lib.hid (fun W => Lay_strings_TrimLeft_one (s.extract 0 q) 48 (by decide) W)
        have hsz : ((⟨(Lib.trimLeftB (s.extract 0 q).data.toList 48).toArray⟩ : ByteArray)).size ≤ 1000000 := by
          have h1 : (Lib.trimLeftB (s.extract 0 q).data.toList 48).length ≤ (s.extract 0 q).data.toList.length := (List.dropWhile_sublist _).length_le
          rw [bytes_len, ByteArray.size_extract] at h1
          show (Lib.trimLeftB (s.extract 0 q).data.toList 48).toArray.size ≤ 1000000
          simp only [List.size_toArray]
          omega
        clear hnt
        generalize (⟨(Lib.trimLeftB (s.extract 0 q).data.toList 48).toArray⟩ : ByteArray) = tr at *
        have hn0 : ¬ 18 < n := fun h => hn (.inl h)
        have hn1 : ((n : Int) == 0) = false := by simp; omega
        have hq1 : q ≤ 17 := by omega
        have hq2 : q < s.size := by omega
        have hQ := Lib.hid hq
        have hMQ := Lib.hid hmq
        clear hn hq hmq
        go_wp2_with fail
        have hqi : (n : Int) = (q : Int) + 1 := by have := hQ.out; omega
        have k1 : IntKind.i64.wrap (n : Int) = (n : Int) := IntWalk.i64_in _ (by omega)
        have k1' : IntKind.i64.wrap (0 + (n : Int)) = (n : Int) := by rw [Int.zero_add]; exact k1
        have k2 : IntKind.i64.wrap ((n : Int) - 1) = (q : Int) := by rw [IntWalk.i64_in _ (by omega)]; omega
        have k4 : (q : Int) ≤ (s.size : Int) := by omega
        have k6 : (n : Int) ≤ (s.size : Int) := by omega
        have k8 : (q : Int) ≤ (n : Int) := by omega
        clear hqi
        refine wp_region_ord (S := fun w' => w'.cell? ⟨X, 0, none⟩ = some (.string s)) [0, 1, 2, 3, 4, 5, 6, 7, 8, 9, 10, 12, 13, 14, 15, 16, 17, 18, 19, 20, 21, 22, 23, 24] [11, 25, 26] (by kernel_rfl) (by kernel_rfl) (fun _ _ _ _ _ h => h) f0 ?_
        simp only [pick, List.filterMap_cons, List.filterMap_nil, List.getElem?_toArray, List.getElem?_cons_zero, List.getElem?_cons_succ]
        repeat (refine wpHead_step (v := ?_) rfl ?_ ?_; rotate_left; (focus (rintro w1 f0'; go_simp; try with_reducible rfl)); simp only [Act.put, List.setIfInBounds_toArray, List.set_cons_zero, List.set_cons_succ])
        refine wpHead_nil ?_
        clear k1 k1' k2 k4 k6 k8
        refine wpTail_step rfl (fun K hK => ?_)
        go_wp2_with fail
        refine (HTr.out _).mono ?_
        rintro e w3 ⟨rfl, rfl⟩
        go_wp2_with fail
        refine hK _ _ f0 ?_
        clear hK K
        try simp only [Act.put, List.setIfInBounds_toArray, List.set_cons_zero, List.set_cons_succ]
        have hds : (s.extract q n).size ≤ 1000000 := by rw [ByteArray.size_extract]; omega
        have hDs : (tr ++ s.extract q n).size ≤ 2000000 := by rw [ByteArray.size_append]; omega
        generalize s.extract q n = dl at *
        refine wpTail_step rfl (fun K hK => ?_)
        go_wp2_with fail
        refine hK _ _ f0 ?_
        clear hK K
        try simp only [Act.put, List.setIfInBounds_toArray, List.set_cons_zero, List.set_cons_succ]
        refine wpTail_step rfl (fun K hK => ?_)
        go_wp2_with fail
        refine hK _ _ f0 ?_
        clear hK K
        try simp only [Act.put, List.setIfInBounds_toArray, List.set_cons_zero, List.set_cons_succ]
        refine wpTail_nil ?_
        generalize hD : tr ++ dl = D at *
        clear hD
        have ft : (w2.drew).cell? ⟨X, 0, none⟩ = some (.string s) := f0
        have HE2 : Hid (tNumber s = ⟨3, s.extract 0 n, D⟩) := Lib.hid (by rw [HE.out, HD.out, if_neg (fun h => absurd h.1 (Nat.lt_irrefl 0))])
        have HT2 := Lib.hid (HT.out 3 D n w2.drew ft hnl)
        clear HE HD HT
        go_wp2_with fail
        refine HT2.out.mono ?_
        rintro e w4 ⟨rfl, hb4⟩
        have hB4 : Below w.heap.size w w4 := hB2.trans (((Below.refl _ w2).drew).trans (hb4.mono hB2.size))
        have hX4 := (hb4.block w.heap.size (Array.getElem?_eq_some_iff.1 hX2).1).trans hX2
        have x0_hX4 : w4.cell? ⟨w.heap.size, 0, none⟩ = some (.int .i64 0) := by simp [World.cell?, hX4]
        have x1_hX4 : w4.cell? ⟨w.heap.size, 1, none⟩ = some (.string ⟨#[]⟩) := by simp [World.cell?, hX4]
        have x2_hX4 : w4.cell? ⟨w.heap.size, 2, none⟩ = some (.string ⟨#[]⟩) := by simp [World.cell?, hX4]
        have z_hX4 : ∀ j, w4.frozen? ⟨w.heap.size, j, none⟩ = false := fun j => frozen_of_row w4 _ j _ _ hX4
        clear hX2 x0_hX2 x1_hX2 x2_hX2 z_hX2
        go_wp2_with fail
        have hR9 := set3 (b1 := .int .i64 3) (b2 := .string (s.extract 0 n)) (b3 := .string D) hX4
        have hB9 := ((hB4.setCell (p := ⟨w.heap.size, 0, none⟩) (Nat.le_refl _) (.int .i64 3)).setCell (p := ⟨w.heap.size, 1, none⟩) (Nat.le_refl _) (.string (s.extract 0 n))).setCell (p := ⟨w.heap.size, 2, none⟩) (Nat.le_refl _) (.string D)
        generalize (((w4.setCell ⟨w.heap.size, 0, none⟩ (.int .i64 3)).setCell ⟨w.heap.size, 1, none⟩ (.string (s.extract 0 n))).setCell ⟨w.heap.size, 2, none⟩ (.string D)) = W9 at *
        have y0 : W9.cell? ⟨w.heap.size, 0, none⟩ = some (.int .i64 3) := by simp [World.cell?, hR9]
        have y1 : W9.cell? ⟨w.heap.size, 1, none⟩ = some (.string (s.extract 0 n)) := by simp [World.cell?, hR9]
        have y2 : W9.cell? ⟨w.heap.size, 2, none⟩ = some (.string D) := by simp [World.cell?, hR9]
        exact bodyPost_ret (v := .agg #[.int .i64 3, .string (s.extract 0 n), .string D]) (by simp [results, Tryz.results82, go_sem, y0, y1, y2]) rfl ⟨by rw [HE2.out]; rfl, hB9⟩
  by_cases h5 : cl = 5
  · have hM := HM.out
    rw [if_pos h5] at hM
    exact key true (by simpa using h5) (by rw [hM]; rfl) (fun _ => by rw [hM]; have := hgp h5; omega)
  · have hM := HM.out
    rw [if_neg h5] at hM
    exact key false (by simpa using h5) (by rw [hM]; rfl) (fun h => by cases h)
end Go.Proofs.YtflpihedhccdfaaGreatDoor
/-
  The first token of a text: by the program.
-/
namespace Go.Proofs.YtflpihedhccdfaaGreatDoor
open Go.RowKit Go.Maps

/-! ### The steps, plainly -/
def stepsOf (s : ByteArray) : List Tok := [tBlank s, tRemark s, tText s, tNumber s, tName s, tSign s, tOther s]
def pickTok : List Tok → Tok
  | [] => noTok
  | x :: l => if x.kind = 0 then pickTok l else x
theorem number_kind (s : ByteArray) (n : Nat) : (dNumber s n).kind ≠ 0 := by
  unfold dNumber
  simp only
  split
  · exact (by decide : (10 : Int) ≠ 0)
  · exact (by decide : (3 : Int) ≠ 0)
theorem digits_zero {s : ByteArray} (h : 0 < s.size) : dDigits (s.extract 0 s.size) = 0 ↔ ¬ (48 ≤ byte0 s ∧ byte0 s ≤ 57) := by
  rw [ext_all s (Nat.le_refl _), byte0_at' h]
  unfold dDigits many
  have e := bytes_drop h
  rw [List.drop_zero] at e
  rw [e, List.takeWhile_cons]
  cases hd : isDig (s[0]'h) with
  | true =>
    unfold isDig at hd
    simp only [Bool.and_eq_true, decide_eq_true_eq] at hd
    simp
    omega
  | false =>
    unfold isDig at hd
    simp only [Bool.and_eq_false_iff, decide_eq_false_iff_not] at hd
    simp
    omega
theorem sign_class {s : ByteArray} (h : 0 < (gFirst s).2) : 1 ≤ gClass (gFirst s).1 := by
  have key : ∀ (l : List Gly) (m : List Gly), (∀ x ∈ l, 1 ≤ classIn x.glyph m) → 0 < (firstIn s l).2 → 1 ≤ classIn (firstIn s l).1 m := by
    intro l
    induction l with
    | nil => intro m _ h; exact absurd h (Nat.lt_irrefl 0)
    | cons x l ih =>
      intro m hm h
      unfold firstIn at h ⊢
      split
      · exact hm x List.mem_cons_self
      · split
        · exact hm x List.mem_cons_self
        · rename_i h1 h2
          rw [if_neg h1, if_neg h2] at h
          exact ih m (fun y hy => hm y (List.mem_cons_of_mem _ hy)) h
  exact key glyphs glyphs (by decide +kernel) h
theorem sign_none {s : ByteArray} (h : (gFirst s).2 = 0) : gClass (gFirst s).1 = 0 := by
  by_cases hc : gClass (gFirst s).1 = 0
  · exact hc
  · have := gFirst_pos hc
    omega
theorem steps_first {s : ByteArray} (h : 0 < s.size) : pickTok (stepsOf s) = dFirst s := by
  have hr := gClass_range (gFirst s).1
  unfold dFirst stepsOf
  by_cases h1 : 0 < dBlanks s
  · rw [if_pos h1]
    unfold pickTok tBlank
    rw [if_pos h1, if_neg (by simp)]
  rw [if_neg h1]
  have e1 : (tBlank s).kind = 0 := by unfold tBlank; rw [if_neg h1]; rfl
  rw [pickTok, if_pos e1]
  by_cases h2 : gClass (gFirst s).1 = 6
  · rw [if_pos h2]
    unfold pickTok tRemark
    rw [if_pos h2, if_neg (by simp)]
  rw [if_neg h2]
  have e2 : (tRemark s).kind = 0 := by unfold tRemark; rw [if_neg h2]; rfl
  rw [pickTok, if_pos e2]
  by_cases h3 : byte0 s = 39
  · rw [if_pos h3]
    unfold pickTok tText
    rw [if_pos h3]
    by_cases hq : dQuoted s = 0
    · rw [if_pos hq, if_neg (by simp)]
    · rw [if_neg hq, if_neg (by simp)]
  rw [if_neg h3]
  have e3 : (tText s).kind = 0 := by unfold tText; rw [if_neg h3]; rfl
  rw [pickTok, if_pos e3]
  by_cases h4 : gClass (gFirst s).1 = 5
  · rw [if_pos h4]
    have hp := gFirst_pos (s := s) (by rw [h4]; decide)
    have en : tNumber s = dNumber s (gFirst s).2 := by
      unfold tNumber numMinus
      rw [if_pos h4, if_neg (fun h => by omega)]
    rw [pickTok, en, if_neg (number_kind _ _)]
  rw [if_neg h4]
  have hm : numMinus s = 0 := by unfold numMinus; rw [if_neg h4]
  have hdz := digits_zero h
  by_cases h5 : 48 ≤ byte0 s ∧ byte0 s ≤ 57
  · rw [if_pos h5]
    have en : tNumber s = dNumber s 0 := by
      unfold tNumber
      rw [hm, if_neg (fun h => (hdz.1 h.2) h5)]
    rw [pickTok, en, if_neg (number_kind _ _)]
  rw [if_neg h5]
  have e4 : (tNumber s).kind = 0 := by
    unfold tNumber
    rw [hm, if_pos ⟨rfl, hdz.2 h5⟩]
  rw [pickTok, if_pos e4]
  by_cases h6 : dWord s = 0
  · rw [if_neg (by omega), if_neg (by omega)]
    have e5 : (tName s).kind = 0 := by unfold tName; rw [if_pos h6]; rfl
    rw [pickTok, if_pos e5]
    by_cases h7 : 0 < (gFirst s).2
    · rw [if_pos h7]
      have hc := sign_class h7
      have es : tSign s = ⟨dKind (gClass (gFirst s).1), s.extract 0 (gFirst s).2, (gFirst s).1⟩ := by
        unfold tSign signOf dKind
        rcases (show gClass (gFirst s).1 = 1 ∨ gClass (gFirst s).1 = 2 ∨ gClass (gFirst s).1 = 3 ∨ gClass (gFirst s).1 = 4 by omega) with e | e | e | e
        all_goals (rw [e]; rfl)
      have hk : dKind (gClass (gFirst s).1) ≠ 0 := by
        unfold dKind
        split
        · decide
        · split
          · decide
          · split <;> decide
      rw [pickTok, es, if_neg hk]
    · rw [if_neg h7]
      have es : tSign s = noTok := by
        unfold tSign
        rw [sign_none (by omega)]
        rfl
      rw [pickTok, es, if_pos (show noTok.kind = 0 from rfl)]
      unfold pickTok tOther
      rw [if_neg (by simp)]
  · by_cases h20 : 20 < dWord s
    · rw [if_pos h20]
      unfold pickTok tName
      rw [if_neg h6, if_pos h20, if_neg (by simp)]
    · rw [if_neg h20, if_pos (by omega)]
      unfold pickTok tName
      rw [if_neg h6, if_neg h20, if_neg (by simp)]
theorem steps_none (s : ByteArray) : ∀ x ∈ stepsOf s, x.kind = 0 → x = noTok := by
  intro x hx
  simp only [stepsOf, List.mem_cons, List.not_mem_nil, or_false] at hx
  rcases hx with rfl | rfl | rfl | rfl | rfl | rfl | rfl
  · unfold tBlank; split
    · intro h; simp at h
    · exact fun _ => rfl
  · unfold tRemark; split
    · intro h; simp at h
    · exact fun _ => rfl
  · unfold tText; split
    · split
      · intro h; simp at h
      · intro h; simp at h
    · exact fun _ => rfl
  · unfold tNumber; split
    · exact fun _ => rfl
    · intro h; exact absurd h (number_kind _ _)
  · unfold tName; split
    · exact fun _ => rfl
    · split
      · intro h; simp at h
      · intro h; simp at h
  · unfold tSign
    intro h
    cases hs : signOf (gClass (gFirst s).1) with
    | none => rfl
    | some k =>
      rw [hs] at h
      have h' : k = 0 := h
      unfold signOf at hs
      split at hs
      · cases hs; simp at h'
      · split at hs
        · cases hs; simp at h'
        · split at hs
          · cases hs; simp at h'
          · split at hs
            · cases hs; simp at h'
            · cases hs
  · intro h
    simp [tOther] at h
end Go.Proofs.YtflpihedhccdfaaGreatDoor
