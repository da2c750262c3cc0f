/-
  A new lexer: by the program.
-/
import Derived.Test.YtflpihedhccdfaaGreatDoorProg
import Derived.Test.YtflpihedhccdfaaGreatDoorReg
import Derived.WalkKit
import Derived.WalkSpells
import Derived.WalkLawsBesides
import Derived.Lib.Hide
import Derived.Lib.MinMax
import Derived.Deep.QuietTactic
import Derived.BigQuiet
import Derived.OwnWalk
import Derived.Deep.AppendLies
import Derived.KernelRfl
import Derived.Laws.OwnMore
import Derived.Deep.OwnRows
import Derived.Test.YtflpihedhccdfaaGreatDoorRxA
import Derived.Test.YtflpihedhccdfaaGreatDoorRxZ
import Derived.Test.YtflpihedhccdfaaGreatDoorRxE
set_option linter.unusedSimpArgs false
set_option linter.unusedVariables false
namespace Go.Proofs.YtflpihedhccdfaaGreatDoor
open Go.RowKit Go.Maps

/-- The lexer at X keeps the text t, and has lexed q lines. -/
def IsLex (w : World) (X : Nat) (t : ByteArray) (q : Int) : Prop :=
  ∃ base v ls, w.heap[X]? = some (.cells #[v, .int .i64 q] 68 (0, 0)) ∧ w.ownsRow base 75 2 v ls.length (lnCells ls) ∧ textsOf ls = piecesB t ∧ RightL w ls
/-- The same, the row's base named. -/
def IsLexAt (w : World) (base X : Nat) (t : ByteArray) (q : Int) : Prop :=
  ∃ v ls, w.heap[X]? = some (.cells #[v, .int .i64 q] 68 (0, 0)) ∧ w.ownsRow base 75 2 v ls.length (lnCells ls) ∧ textsOf ls = piecesB t ∧ RightL w ls
theorem own_mono {w : World} {b b' : Nat} {e : TypeId} {size : Nat} {v : Value} {n : Nat} {xs : List Value} (h : w.ownsRow b e size v n xs) (hb : b' ≤ b) : w.ownsRow b' e size v n xs := by
  refine ⟨h.1, ?_⟩
  rcases h.2 with h0 | ⟨g, cap, cur, hv, hg, rest⟩
  · exact .inl h0
  · exact .inr ⟨g, cap, cur, hv, Nat.le_trans hb hg, rest⟩
theorem IsLex.below {w w' : World} {X : Nat} {t : ByteArray} {q : Int} (h : IsLex w X t q) (hb : Below w.heap.size w w') : IsLex w' X t q := by
  obtain ⟨base, v, ls, h1, h2, h3, h4⟩ := h
  exact ⟨base, v, ls, (hb.block _ (Array.getElem?_eq_some_iff.1 h1).1).trans h1, own_below h2 hb, h3, h4.below hb⟩

theorem pieces_le (s : ByteArray) : (piecesB s).length ≤ s.size + 1 := by
  unfold piecesB
  rw [List.length_map, lines_len]
  have := List.count_le_length (a := (10 : UInt8)) (l := s.data.toList)
  rw [bytes_len] at this
  omega
theorem piece_small {s p : ByteArray} {n : Nat} (h : (piecesB s)[n]? = some p) : p.size ≤ s.size := by
  obtain ⟨st, _, _, h3, _⟩ := piece_lies h
  omega
theorem row_string {w : World} {b : Nat} {ps : List ByteArray} {T : TypeId} {fr : Nat × Nat} (h : w.heap[b]? = some (.cells (ps.map Value.string).toArray T fr)) : ∀ (k : Nat) (p : ByteArray), ps[k]? = some p → w.cell? ⟨b, k, none⟩ = some (.string p) := fun k p hp => by
  simp [World.cell?, h, hp]

set_option maxRecDepth 100000 in
set_option maxHeartbeats 4000000 in
theorem New_full (s : ByteArray) (a d : Addr) (w : World) (hs : 4000 < s.size) (hs2 : s.size ≤ maxLen) (hL : Laid5 a d w) :
    Calls Tryz.prog 11 #[.string s] w fun e w' => e = .returned (.tuple #[.pointer none, .int .i64 11]) ∧ w' = w := by
  have hg := hL.full
  have HL := Lib.hid (told_full a d w hL)
  unfold maxLen at hs2
  clear hL
  go_enter Tryz.func11, Tryz.ntmps11
  go_wp2_with fail
  refine HL.out.mono ?_
  rintro e w2 ⟨rfl, rfl⟩
  go_wp2_with fail
  go_ret2
  exact ⟨rfl, rfl⟩

set_option maxRecDepth 100000 in
set_option maxHeartbeats 8000000 in
theorem New_any (s : ByteArray) (w : World) (hs : s.size ≤ 4000) (hT : Tabs w) :
    Calls Tryz.prog 11 #[.string s] w fun e w' => e = .returned (.tuple #[.pointer (some ⟨w.heap.size, 0, none⟩), .int .i64 0]) ∧ IsLexAt w' w.heap.size w.heap.size s (piecesB s).length ∧ Below w.heap.size w w' := by
  have HT := Lib.hid hT
  clear hT
  go_enter Tryz.func11, Tryz.ntmps11
  go_upto_region 4 with fail
  have hX1 := heap_alloc_new w (.cells #[.slice none 0 0, .int .i64 0] 68)
  have hb1 := below_new w (.cells #[.slice none 0 0, .int .i64 0] 68)
  have hz1 : (w.alloc (.cells #[.slice none 0 0, .int .i64 0] 68)).heap.size = w.heap.size + 1 := by simp
  generalize w.alloc (.cells #[.slice none 0 0, .int .i64 0] 68) = w1 at *
  have HX1 := Lib.hid hX1
  have HB1 := Lib.hid hb1
  have HZ1 := Lib.hid hz1
  clear hX1 hb1 hz1
  obtain ⟨V, hV⟩ : ∃ V, w1.alloc (.cells ((piecesB s).map Value.string).toArray 9) = V := ⟨_, rfl⟩
  have hbV : Below w1.heap.size w1 V := by rw [← hV]; exact below_new _ _
  have hrow : V.heap[w1.heap.size]? = some (.cells ((piecesB s).map Value.string).toArray 9 (0, 0)) := by rw [← hV]; exact heap_alloc_new _ _
  have hsV : V.heap.size = w1.heap.size + 1 := by rw [← hV]; simp
  have hXV : V.heap[w.heap.size]? = some (.cells #[.slice none 0 0, .int .i64 0] 68 (0, 0)) := (hbV.block _ (by have := HZ1.out; omega)).trans HX1.out
  have hHV : HoldsS V (some ⟨w1.heap.size, 0, none⟩) (piecesB s) := fun k x hx => ⟨_, 0, rfl, by rw [Nat.zero_add]; exact row_string hrow k x hx⟩
  have hTV : Tabs V := (HT.out.below HB1.out).below hbV
  have hcount := pieces_le s
  have HLx : Hid (∀ W', Below V.heap.size V W' → Calls Tryz.prog 27 #[.pointer (some ⟨w.heap.size, 0, none⟩), .slice (some ⟨w1.heap.size, 0, none⟩) (piecesB s).length (piecesB s).length] W' fun e w' => ∃ v ls, e = .returned v ∧ ls.length = (piecesB s).length ∧ textsOf ls = piecesB s ∧
      w'.ownsRow W'.heap.size 75 2 v (piecesB s).length (lnCells ls) ∧ RightL w' ls ∧ W'.grownBy w' (some w.heap.size) ∧ w'.heap[w.heap.size]? = some (.cells #[.slice none 0 0, .int .i64 (0 + (piecesB s).length)] 68 (0, 0))) :=
    Lib.hid fun W' hb => lex_any w.heap.size _ 0 _ _ (piecesB s) W' (by omega) (fun p hp => by obtain ⟨k, hk⟩ := List.mem_iff_getElem?.1 hp; have := piece_small hk; omega) (by omega) ((hb.block _ (by have := HZ1.out; omega)).trans hXV) (hHV.below hb) (hTV.below hb)
  have HSp : Hid (Calls Tryz.prog 28 #[.string s, .string ⟨#[10]⟩] w1.drew fun e w' => e = .returned (.slice (some ⟨w1.heap.size, 0, none⟩) (piecesB s).length (piecesB s).length) ∧ w' = V.drew) := Lib.hid ((split_any s w1.drew (by omega)).mono fun e w' ⟨h1, h2⟩ => ⟨h1, by rw [h2, ← hV]; rfl⟩)
  have HsV := Lib.hid hsV
  have HbV := Lib.hid hbV
  clear hV hbV hrow hsV hXV hHV hTV
  obtain ⟨ps, hps⟩ : ∃ ps, ps = piecesB s := ⟨_, rfl⟩
  rw [← hps] at HLx HSp hcount
  have HPs : Hid (ps = piecesB s) := Lib.hid hps
  clear hps
  go_region_with (first | (go_at_call 28; refine HSp.out.mono ?_; rintro e w' ⟨rfl, rfl⟩) | (go_at_call 27; refine (HLx.out _ (Below.refl _ _).drew).mono ?_; rintro e w3 ⟨v3, ls3, rfl, hl3, ht3, ho3, hr3, hg3, hx3⟩; obtain ⟨A3, k3, rfl⟩ := owns_slice ho3; have c3 : w3.cell? ⟨w.heap.size, 0, none⟩ = some (.slice none 0 0) := by {simp [World.cell?, hx3]}; have z3 : w3.frozen? ⟨w.heap.size, 0, none⟩ = false := frozen_of_row w3 _ 0 _ _ hx3))
  all_goals (
    have hg4 := grown_setCell w3 ⟨w.heap.size, 0, none⟩ (.slice A3 ps.length k3)
    have hx4 := heap_setCell_same w3 w.heap.size 0 _ _ (.slice A3 ps.length k3) hx3
    have ho4 := ho3.kept hg4 (Or.inr (own_apart_cells ho3 hx3 (by decide)))
    have hr4 := hr3.other hg4 hx3 (by decide)
    have hfin : IsLexAt (w3.setCell ⟨w.heap.size, 0, none⟩ (.slice A3 ps.length k3)) w.heap.size w.heap.size s ps.length := by
      refine ⟨.slice A3 ps.length k3, ls3, by rw [hx4]; simp, by rw [hl3]; exact own_mono ho4 (by show w.heap.size ≤ V.heap.size; have := HsV.out; have := HZ1.out; omega), ?_, hr4⟩
      rw [ht3]
      exact HPs.out
    have hlow : Below w.heap.size w (w3.setCell ⟨w.heap.size, 0, none⟩ (.slice A3 ps.length k3)) := by
      have h1 : Below w.heap.size w V.drew := (HB1.out.trans (HbV.out.mono (by have := HZ1.out; omega))).drew
      exact (h1.grown hg3 h1.size (fun k e => by cases e; exact Nat.le_refl _)).setCell (p := ⟨w.heap.size, 0, none⟩) (Nat.le_refl _) _
    have HF := Lib.hid hfin
    have HW := Lib.hid hlow
    clear hg4 hx4 ho4 hr4 hfin hlow hx3 ho3 hr3 hg3 c3 z3
    go_wp2_with fail
    go_ret2
    exact ⟨rfl, by rw [← HPs.out]; exact HF.out, HW.out⟩)
end Go.Proofs.YtflpihedhccdfaaGreatDoor
