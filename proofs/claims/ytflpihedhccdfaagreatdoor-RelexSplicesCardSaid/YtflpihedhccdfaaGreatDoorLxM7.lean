/-
  The glyph that a text begins with: by the program.
-/
import Derived.Test.YtflpihedhccdfaaGreatDoorProg
import Derived.Test.YtflpihedhccdfaaGreatDoorReg
import Derived.WalkKit
import Derived.WalkSpells
import Derived.WalkLawsBesides
import Derived.Lib.Hide
import Derived.Lib.MinMax
import Derived.Deep.QuietTactic
import Derived.BigQuiet
import Derived.OwnWalk
import Derived.Deep.AppendLies
import Derived.KernelRfl
import Derived.RangeFuncNested
import Derived.RangeFuncBound
import Derived.RangeFuncCalls
import Derived.RangeFuncLeaves
import Derived.RangeFuncBox
import Derived.OwnWalkIn
import Derived.TacticsInMore
import Derived.LoopNIn
import Derived.LoopIn
import Derived.Deep.RegionLaw
import Derived.Deep.Cut
import Derived.Test.YtflpihedhccdfaaGreatDoorLxM5
import Derived.Test.YtflpihedhccdfaaGreatDoorLxM6
import Derived.Test.YtflpihedhccdfaaGreatDoorRegG
set_option linter.unusedSimpArgs false
set_option linter.unusedVariables false
namespace Go.Proofs.YtflpihedhccdfaaGreatDoor
open Go.RowKit Go.Maps

attribute [local go_sem] Oper.semAt_some

section
variable {P : Program} {ops : Array Oper} {Q : Exit → Act → World → Prop} {S : World → Prop}
theorem wpTail_step_un {o : Oper} {rest : List Oper} {a : Act} {w : World} (hw : Region.wanted o (yielded ops a.tmps) = false) (hS : S w) (h : wpTail P ops Q S rest (a.put o.dst undef) w) : wpTail P ops Q S (o :: rest) a w := by
  unfold wpTail
  rw [if_neg (by rw [hw]; simp)]
  exact ⟨hS, h⟩
end

theorem prefix_begins (s p : ByteArray) : Lib.hasPrefix s.data.toList p.data.toList = begins s p := by
  rw [← Lib.hasPrefix_of_take]
  unfold begins
  rw [bytes_len, bytes_len]
  congr 1
  rw [Bool.eq_iff_iff, beq_iff_eq, decide_eq_true_eq]
  constructor
  · intro h
    exact bytes_eq (by rw [ext_list]; exact h)
  · intro h
    rw [← ext_list]
    exact congrArg (fun x => x.data.toList) h
theorem hasPrefix_any (s p : ByteArray) (w : World) : Calls Tryz.prog 111 #[.string s, .string p] w fun e w' => e = .returned (.bool (begins s p)) ∧ w' = w := by
  rw [← prefix_begins]
  exact Lay_strings_HasPrefix s p w

/-- How a glyph stands at a text's beginning, if it does. -/
def hitG (s : ByteArray) (x : Gly) : Option ByteArray := if begins s x.glyph = true then some x.glyph else if x.letter ≠ ByteArray.empty ∧ begins s (tick x.letter) = true then some (tick x.letter) else none
theorem firstIn_pass {s : ByteArray} : ∀ (l : List Gly) (m : List Gly), (∀ x ∈ l, hitG s x = none) → firstIn s (l ++ m) = firstIn s m
  | [], _, _ => rfl
  | x :: l, m, h => by
    have h1 := h x List.mem_cons_self
    unfold hitG at h1
    by_cases h2 : begins s x.glyph = true
    · rw [if_pos h2] at h1; cases h1
    · rw [if_neg h2] at h1
      by_cases h3 : x.letter ≠ ByteArray.empty ∧ begins s (tick x.letter) = true
      · rw [if_pos h3] at h1; cases h1
      · show firstIn s (x :: (l ++ m)) = _
        rw [firstIn, if_neg h2, if_neg h3]
        exact firstIn_pass l m (fun y hy => h y (List.mem_cons_of_mem _ hy))
theorem firstIn_hit {s a : ByteArray} {x : Gly} {m : List Gly} (hf : fineG x = true) (h : hitG s x = some a) : firstIn s (x :: m) = (x.glyph, a.size) := by
  unfold hitG at h
  rw [firstIn]
  by_cases h2 : begins s x.glyph = true
  · rw [if_pos h2] at h ⊢
    cases h
    rfl
  · rw [if_neg h2] at h ⊢
    by_cases h3 : x.letter ≠ ByteArray.empty ∧ begins s (tick x.letter) = true
    · rw [if_pos h3] at h ⊢
      cases h
      rw [fine_letter hf h3.1]
    · rw [if_neg h3] at h; cases h
theorem gFirst_hit {s a : ByteArray} {i : Nat} {x : Gly} (hx : glyphs[i]? = some x) (hn : ∀ y ∈ glyphs.take i, hitG s y = none) (h : hitG s x = some a) : gFirst s = (x.glyph, a.size) := by
  unfold gFirst
  have hi : i < glyphs.length := (List.getElem?_eq_some_iff.1 hx).1
  have e : glyphs = glyphs.take i ++ (x :: glyphs.drop (i + 1)) := by
    rw [← (List.getElem?_eq_some_iff.1 hx).2, ← List.drop_eq_getElem_cons hi, List.take_append_drop]
  rw [e, firstIn_pass _ _ hn, firstIn_hit (glyphs_fine x (List.mem_of_getElem? hx)) h]
theorem gFirst_no {s : ByteArray} (hn : ∀ y ∈ glyphs, hitG s y = none) : gFirst s = (ByteArray.empty, 0) := by
  have := firstIn_pass glyphs [] hn
  rw [List.append_nil] at this
  exact this

theorem cell_far {W : World} {b o b' o' : Nat} {v : Value} (h : b ≠ b') : (W.setCell ⟨b, o, none⟩ v).cell? ⟨b', o', none⟩ = W.cell? ⟨b', o', none⟩ := World.cell?_setCell_other _ ⟨b, o, none⟩ ⟨b', o', none⟩ _ (fun e => h (by have := congrArg Addr.block e; exact this))
/-- What the loop over the glyphs holds. -/
structure FindAt (s : ByteArray) (w : World) (T Rd L D : Nat) (r : Loop) (g as_ : List Value) (W : World) : Prop where
  kept : KeptBut w.heap.size T w W
  b1 : W.heap[w.heap.size]? = some (.cells #[.pointer (some ⟨Rd, 0, none⟩)] 168 (0, 0))
  b2 : W.heap[w.heap.size + 1]? = some (.cells g.toArray tG (0, 0))
  b3 : W.heap[w.heap.size + 2]? = some (.cells as_.toArray 9 (0, 0))
  books : Books L D r W

theorem FindAt.put {s : ByteArray} {w : World} {T Rd L D : Nat} {r r' : Loop} {g as_ : List Value} {W : World} (h : FindAt s w T Rd L D r g as_ W) (hL : w.heap.size + 4 ≤ L) : FindAt s w T Rd L D r' g as_ (W.putObj L (.loop r')) := by
  have ho : ∀ j, j ≠ L → (W.putObj L (.loop r')).heap[j]? = W.heap[j]? := fun j hj => World.putObj_heap_other hj
  refine ⟨h.kept.trans ⟨rfl, rfl, rfl, by simp [World.putObj], fun k hk _ => ho k (by omega)⟩, (ho _ (by omega)).trans h.b1, (ho _ (by omega)).trans h.b2, (ho _ (by omega)).trans h.b3, h.books.put r'⟩

theorem FindAt.below {s : ByteArray} {w : World} {T Rd L D : Nat} {r : Loop} {g as_ : List Value} {W W' : World} {m : Nat} (h : FindAt s w T Rd L D r g as_ W) (hb : Below m W W') (hm : w.heap.size + 4 ≤ m) (hL : L < m) (hD : D < m) : FindAt s w T Rd L D r g as_ W' :=
  ⟨h.kept.trans (.of_below hb (by omega)), (hb.block _ (by omega)).trans h.b1, (hb.block _ (by omega)).trans h.b2, (hb.block _ (by omega)).trans h.b3, ⟨(hb.block _ hL).trans h.books.lp, (hb.block _ hD).trans h.books.calls, h.books.ne⟩⟩
theorem FindAt.drewN {s : ByteArray} {w : World} {T Rd L D : Nat} {r : Loop} {g as_ : List Value} {W : World} (h : FindAt s w T Rd L D r g as_ W) (n : Nat) : FindAt s w T Rd L D r g as_ (W.drewN n) :=
  ⟨h.kept.trans ⟨rfl, rfl, rfl, Nat.le_refl _, fun _ _ _ => rfl⟩, h.b1, h.b2, h.b3, ⟨h.books.lp, h.books.calls, h.books.ne⟩⟩
theorem keeps_drewN {W W' : World} (h : KeepsOthers W W') (n : Nat) : KeepsOthers W (W'.drewN n) := ⟨h.size, h.same⟩
theorem FindAt.store {s : ByteArray} {w : World} {T Rd L D : Nat} {r : Loop} {a1 a2 a3 a4 : Value} {W : World} (h : FindAt s w T Rd L D r [a1, a2, a3] [a4] W) (hL : w.heap.size + 4 ≤ L) (hD : w.heap.size + 4 ≤ D) (b1 b2 b3 b4 : Value) :
    FindAt s w T Rd L D r [b1, b2, b3] [b4] ((((W.setCell ⟨w.heap.size + 1, 0, none⟩ b1).setCell ⟨w.heap.size + 1, 1, none⟩ b2).setCell ⟨w.heap.size + 1, 2, none⟩ b3).setCell ⟨w.heap.size + 1 + 1, 0, none⟩ b4) := by
  have hs3 := set3 (b1 := b1) (b2 := b2) (b3 := b3) h.b2
  have ho : ∀ j, j ≠ w.heap.size + 1 → (((W.setCell ⟨w.heap.size + 1, 0, none⟩ b1).setCell ⟨w.heap.size + 1, 1, none⟩ b2).setCell ⟨w.heap.size + 1, 2, none⟩ b3).heap[j]? = W.heap[j]? := fun j hj => by
    rw [heap_setCell_other _ _ _ _ hj, heap_setCell_other _ _ _ _ hj, heap_setCell_other _ _ _ _ hj]
  have hb : Below w.heap.size W ((((W.setCell ⟨w.heap.size + 1, 0, none⟩ b1).setCell ⟨w.heap.size + 1, 1, none⟩ b2).setCell ⟨w.heap.size + 1, 2, none⟩ b3).setCell ⟨w.heap.size + 1 + 1, 0, none⟩ b4) :=
    ((((Below.refl w.heap.size W).setCell (p := ⟨w.heap.size + 1, 0, none⟩) (by show w.heap.size ≤ w.heap.size + 1; omega) _).setCell (p := ⟨w.heap.size + 1, 1, none⟩) (by show w.heap.size ≤ w.heap.size + 1; omega) _).setCell (p := ⟨w.heap.size + 1, 2, none⟩) (by show w.heap.size ≤ w.heap.size + 1; omega) _).setCell (p := ⟨w.heap.size + 1 + 1, 0, none⟩) (by show w.heap.size ≤ w.heap.size + 1 + 1; omega) _
  have hoo : ∀ j, j ≠ w.heap.size + 1 → j ≠ w.heap.size + 1 + 1 → ((((W.setCell ⟨w.heap.size + 1, 0, none⟩ b1).setCell ⟨w.heap.size + 1, 1, none⟩ b2).setCell ⟨w.heap.size + 1, 2, none⟩ b3).setCell ⟨w.heap.size + 1 + 1, 0, none⟩ b4).heap[j]? = W.heap[j]? := fun j h1 h2 => (heap_setCell_other _ _ _ _ h2).trans (ho j h1)
  refine ⟨h.kept.trans (.of_below hb (Nat.le_refl _)), (hoo _ (by omega) (by omega)).trans h.b1, (heap_setCell_other _ _ _ _ (by show w.heap.size + 1 ≠ w.heap.size + 1 + 1; omega)).trans hs3, ?_, ⟨(hoo _ (by omega) (by omega)).trans h.books.lp, (hoo _ (by omega) (by omega)).trans h.books.calls, h.books.ne⟩⟩
  have h4 := (ho (w.heap.size + 1 + 1) (by omega)).trans h.b3
  rw [heap_setCell_same _ (w.heap.size + 1 + 1) 0 _ _ b4 h4]
  simp

set_option maxRecDepth 100000 in
set_option maxHeartbeats 8000000 in
/-- 'first' of a reader with a table of its own. -/
theorem rfirst_any (s : ByteArray) (Rd T : Nat) (w : World) (hs : s.size ≤ 1000000) (h0 : w.cell? ⟨Rd, 0, none⟩ = some (.string s)) (h1 : w.cell? ⟨Rd, 1, none⟩ = some (.pointer (some ⟨T, 0, none⟩))) (hN : NewTab w T) (hne : Rd ≠ T) :
    Calls Tryz.prog 104 #[.pointer (some ⟨Rd, 0, none⟩)] w fun e w' => ∃ (x : Gly) (a : ByteArray), e = .returned (.tuple #[.agg #[.string x.glyph, .string x.letter, .int .i64 x.cls], .string a]) ∧ gFirst s = (x.glyph, a.size) ∧ KeptBut w.heap.size T w w' := by
  have hT : T < w.heap.size := (Array.getElem?_eq_some_iff.1 hN).1
  have lR : Rd < w.heap.size := cell_lt h0
  have hB1 := below_new w (.cells #[.pointer (some ⟨Rd, 0, none⟩)] 168)
  have hX1 := heap_alloc_new w (.cells #[.pointer (some ⟨Rd, 0, none⟩)] 168)
  have hz1 : (w.alloc (.cells #[.pointer (some ⟨Rd, 0, none⟩)] 168)).heap.size = w.heap.size + 1 := by simp
  obtain ⟨w1, hw1⟩ : ∃ w1, w1 = w.alloc (.cells #[.pointer (some ⟨Rd, 0, none⟩)] 168) := ⟨_, rfl⟩
  rw [← hw1] at hB1 hX1 hz1
  have hB2 := below_new w1 (.cells #[.string ByteArray.empty, .string ByteArray.empty, .int .i64 0] tG)
  have hX2 := heap_alloc_new w1 (.cells #[.string ByteArray.empty, .string ByteArray.empty, .int .i64 0] tG)
  have hz2 : (w1.alloc (.cells #[.string ByteArray.empty, .string ByteArray.empty, .int .i64 0] tG)).heap.size = w1.heap.size + 1 := by simp
  obtain ⟨w2, hw2⟩ : ∃ w2, w2 = w1.alloc (.cells #[.string ByteArray.empty, .string ByteArray.empty, .int .i64 0] tG) := ⟨_, rfl⟩
  rw [← hw2] at hB2 hX2 hz2
  have hB3 := below_new w2 (.cells #[.string ByteArray.empty] 9)
  have hX3 := heap_alloc_new w2 (.cells #[.string ByteArray.empty] 9)
  have hz3 : (w2.alloc (.cells #[.string ByteArray.empty] 9)).heap.size = w2.heap.size + 1 := by simp
  obtain ⟨w3, hw3⟩ : ∃ w3, w3 = w2.alloc (.cells #[.string ByteArray.empty] 9) := ⟨_, rfl⟩
  rw [← hw3] at hB3 hX3 hz3
  have hL : Below w.heap.size w w3 := (hB1.trans (hB2.mono (by omega))).trans (hB3.mono (by omega))
  have c1 := (hL.cell (p := ⟨Rd, 1, none⟩) lR).trans h1
  have HW : w3 = ((w.alloc (.cells #[.pointer (some ⟨Rd, 0, none⟩)] 168)).alloc (.cells #[.string { data := #[] }, .string { data := #[] }, .int .i64 0] 188)).alloc (.cells #[.string { data := #[] }] 9) := by rw [hw3, hw2, hw1]; rfl
  have HX1 := Lib.hid ((hB3.block w.heap.size (by omega)).trans ((hB2.block w.heap.size (by omega)).trans hX1))
  rw [hz1] at hX2
  have HX2 := Lib.hid ((hB3.block (w.heap.size + 1) (by omega)).trans hX2)
  rw [hz2, hz1] at hX3
  have HX3 := Lib.hid hX3
  have hz : w3.heap.size = w.heap.size + 3 := by omega
  clear hw1 hw2 hw3 hB1 hB2 hB3 hX1 hX2 hX3 hz1 hz2 hz3 w1 w2
  have HN3 := Lib.hid (hN.below hL)
  clear hN
  rw [HW] at c1
  refine calls_of_wp_marks 3 Tryz.func104 rfl ?_
  simp only [Tryz.ntmps104, List.size_toArray, List.length_cons, List.length_nil, Nat.reduceAdd, Nat.reduceSub, Array.replicate_succ, Array.replicate_zero, List.push_toArray, List.append_toArray, List.nil_append, List.cons_append]
  have HWh := Lib.hid HW
  clear HW
  go_wp2_with fail
  rw [← HWh.out] at c1
  try rw [← HWh.out]
  refine (all_any T _).mono ?_
  rintro e w2 ⟨rfl, rfl⟩
  go_wp2_with fail
  have hbV := below_new w3 (.cells #[.pointer (some ⟨T, 0, none⟩)] 171)
  have hXV := heap_alloc_new w3 (.cells #[.pointer (some ⟨T, 0, none⟩)] 171)
  have hzV : (w3.alloc (.cells #[.pointer (some ⟨T, 0, none⟩)] 171)).heap.size = w.heap.size + 4 := by simp; omega
  clear HWh
  generalize w3.alloc (.cells #[.pointer (some ⟨T, 0, none⟩)] 171) = V at *
  rw [hz] at hXV
  refine wpIn_wide.1 (range_both (n := 3) (F := Fence.wide) rfl (by omega) (gf := 115) (lb := #[.pointer (some ⟨w.heap.size + 3, 0, none⟩)]) rfl trivial (enters_of Tryz.func115 (by kernel_rfl) rfl) ?_)
  intro fn r W hfn hr hW hBk
  have hVW : Below V.heap.size V W := by rw [hW]; exact ((Below.refl _ V).alloc (Nat.le_refl _) _).alloc (by simp) _
  have hzW : W.heap.size = w.heap.size + 6 := by rw [hW]; simp; omega
  rw [hzV] at hBk hVW ⊢
  have hwW : KeptBut w.heap.size T w W := .of_below ((hL.trans (hbV.mono (by omega))).trans (hVW.mono (by omega))) (Nat.le_refl _)
  have hF0 : FindAt s w T Rd (w.heap.size + 4 + 1) (w.heap.size + 4) r [.string ByteArray.empty, .string ByteArray.empty, .int .i64 0] [.string ByteArray.empty] W :=
    ⟨hwW, (hVW.block _ (by omega)).trans ((hbV.block _ (by omega)).trans HX1.out), (hVW.block _ (by omega)).trans ((hbV.block _ (by omega)).trans HX2.out), (hVW.block _ (by omega)).trans ((hbV.block _ (by omega)).trans HX3.out), hBk⟩
  have hpb : W.cell? ⟨w.heap.size + 3, 0, none⟩ = some (.pointer (some ⟨T, 0, none⟩)) := by
    have := (hVW.block (w.heap.size + 3) (by omega)).trans hXV
    simp [World.cell?, this]
  have hNW : NewTab W T := (hVW.block T (by omega)).trans ((hbV.block T (by omega)).trans HN3.out)
  refine callsIn_wide.2 ((all1_any 2 (w.heap.size + 4 + 1) (w.heap.size + 3) T
    (fun pre W' => (∀ y ∈ pre, hitG s y = none) ∧ FindAt s w T Rd (w.heap.size + 4 + 1) (w.heap.size + 4) r [.string ByteArray.empty, .string ByteArray.empty, .int .i64 0] [.string ByteArray.empty] W')
    (fun W' => ∃ (x : Gly) (a : ByteArray), gFirst s = (x.glyph, a.size) ∧ FindAt s w T Rd (w.heap.size + 4 + 1) (w.heap.size + 4) { r with state := .done, pending := some .ret } [.string x.glyph, .string x.letter, .int .i64 x.cls] [.string a] W') W hpb hNW ?hZero ?hStays ?hRounds).mono ?_)
  case hZero =>
    rintro W' ⟨M, lv, _, hk, _⟩
    rw [hzW] at hk
    refine ⟨fun y hy => by simp at hy, ⟨hF0.kept.trans ⟨hk.os, hk.tape, hk.output, hk.size, fun k hk1 hk2 => hk.block k (by omega) hk2⟩, (hk.block _ (by omega) (by omega)).trans hF0.b1, (hk.block _ (by omega) (by omega)).trans hF0.b2, (hk.block _ (by omega) (by omega)).trans hF0.b3, ⟨(hk.block _ (by omega) (by omega)).trans hBk.lp, (hk.block _ (by omega) (by omega)).trans hBk.calls, hBk.ne⟩⟩⟩
  case hStays =>
    rintro pre W1 W2 ⟨hh, hF⟩ hb
    rw [hzW] at hb
    refine ⟨hh, ⟨hF.kept.trans (.of_below hb (by omega)), (hb.block _ (by omega)).trans hF.b1, (hb.block _ (by omega)).trans hF.b2, (hb.block _ (by omega)).trans hF.b3, ⟨(hb.block _ (by omega)).trans hF.books.lp, (hb.block _ (by omega)).trans hF.books.calls, hF.books.ne⟩⟩⟩
  case hRounds =>
    rintro i x W5 hx ⟨hh, hF5⟩ hz5
    rw [hzW] at hz5
    have r1 : r.state = .ready := by rw [hr]
    have r2 : r.pending = none := by rw [hr]
    have r3 : r.params.size = 1 := by rw [hr]; rfl
    have hXa := heap_alloc_new W5 (.cells #[.string x.glyph, .string x.letter, .int .i64 x.cls] tG)
    have hBa := below_new W5 (.cells #[.string x.glyph, .string x.letter, .int .i64 x.cls] tG)
    have hKa : KeepsOthers W5 (W5.alloc (.cells #[.string x.glyph, .string x.letter, .int .i64 x.cls] tG)) := KeepsOthers.alloc _ _
    have hza : (W5.alloc (.cells #[.string x.glyph, .string x.letter, .int .i64 x.cls] tG)).heap.size = W5.heap.size + 1 := by simp
    have hFa := hF5.below hBa (by omega) (by omega) (by omega)
    have hF6 := hFa.put (r' := { r with state := .busy }) (by omega)
    obtain ⟨W6, hW6⟩ : ∃ W6, (W5.alloc (.cells #[.string x.glyph, .string x.letter, .int .i64 x.cls] tG)).putObj (w.heap.size + 4 + 1) (.loop { r with state := .busy }) = W6 := ⟨_, rfl⟩
    have hX6 : W6.heap[W5.heap.size]? = some (.cells #[.string x.glyph, .string x.letter, .int .i64 x.cls] tG (0, 0)) := by rw [← hW6]; exact (World.putObj_heap_other (by omega)).trans hXa
    have ho6 : ∀ j, w.heap.size + 6 ≤ j → j < W5.heap.size → W6.heap[j]? = W5.heap[j]? := fun j h1 h2 => by rw [← hW6]; exact (World.putObj_heap_other (by omega)).trans (hBa.block j h2)
    have hz6 : W6.heap.size = W5.heap.size + 1 := by rw [← hW6]; simp [World.putObj]
    rw [hW6] at hF6
    refine (round_both (F := Fence.wide) (n := 2) (args := #[.agg #[.string x.glyph, .string x.letter, .int .i64 x.cls]])
      (Post := fun W3 => hitG s x = none ∧ FindAt s w T Rd (w.heap.size + 4 + 1) (w.heap.size + 4) { r with state := .busy } [.string ByteArray.empty, .string ByteArray.empty, .int .i64 0] [.string ByteArray.empty] W3 ∧ Below W6.heap.size W6 W3)
      (PostX := fun c W3 => c = .ret ∧ ∃ a, hitG s x = some a ∧ FindAt s w T Rd (w.heap.size + 4 + 1) (w.heap.size + 4) { r with state := .busy } [.string x.glyph, .string x.letter, .int .i64 x.cls] [.string a] W3) trivial hF5.books r1 r2 (by rw [r3]; rfl) ?_).mono ?_
    · have HW6 := Lib.hid hW6
      have HF6 := Lib.hid hF6
      have b1 := hF6.b1
      have b2 := hF6.b2
      have b3 := hF6.b3
      have cR : W6.cell? ⟨Rd, 0, none⟩ = some (.string s) := by
        have := hF6.kept.block Rd lR hne
        rw [← h0]
        simp only [World.cell?, this]
      have c1 : W6.cell? ⟨w.heap.size, 0, none⟩ = some (.pointer (some ⟨Rd, 0, none⟩)) := by simp [World.cell?, b1]
      have x0 : W6.cell? ⟨W5.heap.size, 0, none⟩ = some (.string x.glyph) := by simp [World.cell?, hX6]
      have x1 : W6.cell? ⟨W5.heap.size, 1, none⟩ = some (.string x.letter) := by simp [World.cell?, hX6]
      have x2 : W6.cell? ⟨W5.heap.size, 2, none⟩ = some (.int .i64 x.cls) := by simp [World.cell?, hX6]
      have y0 : W6.cell? ⟨w.heap.size + 1, 0, none⟩ = some (.string ByteArray.empty) := by simp [World.cell?, b2]
      have y1 : W6.cell? ⟨w.heap.size + 1, 1, none⟩ = some (.string ByteArray.empty) := by simp [World.cell?, b2]
      have y2 : W6.cell? ⟨w.heap.size + 1, 2, none⟩ = some (.int .i64 0) := by simp [World.cell?, b2]
      have y3 : W6.cell? ⟨w.heap.size + 1 + 1, 0, none⟩ = some (.string ByteArray.empty) := by simp [World.cell?, b3]
      have z0 : ∀ j, W6.frozen? ⟨w.heap.size + 1, j, none⟩ = false := fun j => frozen_of_row W6 _ j _ _ b2
      have z1 : ∀ j, W6.frozen? ⟨w.heap.size + 1 + 1, j, none⟩ = false := fun j => frozen_of_row W6 _ j _ _ b3
      have HP := Lib.hid (fun p => hasPrefix_any s p)
      have hls : x.letter.size ≤ 2 := by
        have hf := glyphs_fine x (List.mem_of_getElem? hx)
        by_cases hl0 : x.letter = ByteArray.empty
        · rw [hl0]; decide
        · have := fine_letter hf hl0
          unfold tick at this
          rw [ByteArray.size_append] at this
          omega
      clear hW6 hF6 hX6 hFa hXa hBa hF5 hF0 hh hpb hNW hwW hVW hBk hW hXV hbV HN3 HX1 HX2 HX3 r1 r2 r3 b1 b2 b3 hza
      subst hr
      gi_wp2_with fail
      refine ⟨hKa, ?_⟩
      rw [HW6.out]
      clear hKa HW6
      gi_wp2_with fail
      cases hb1 : begins s x.glyph with
      | true =>
        have HP1 := Lib.hid (fun W => HP.out x.glyph W)
        rw [hb1] at HP1
        have HH : Hid (hitG s x = some x.glyph) := Lib.hid (by unfold hitG; rw [if_pos hb1])
        clear hb1 HP
        refine wpIn_region_ord (S := fun w' => w'.cell? ⟨w.heap.size, 0, none⟩ = some (.pointer (some ⟨Rd, 0, none⟩)) ∧ w'.cell? ⟨Rd, 0, none⟩ = some (.string s) ∧ w'.cell? ⟨W5.heap.size, 0, none⟩ = some (.string x.glyph)) [0, 1, 2, 3, 4, 5, 6] [7] (by kernel_rfl) (by kernel_rfl) (by kernel_rfl) (fun _ _ _ _ _ h => h) (fun _ _ h => h) ⟨c1, cR, x0⟩ ?_
        simp only [pick, List.filterMap_cons, List.filterMap_nil, List.getElem?_toArray, List.getElem?_cons_zero, List.getElem?_cons_succ]
        repeat (refine wpHead_step (v := ?_) rfl ?_ ?_; rotate_left; (focus (rintro w1 ⟨c1', cR', x0'⟩; go_simp; try with_reducible rfl)); simp only [Act.put, List.setIfInBounds_toArray, List.set_cons_zero, List.set_cons_succ])
        refine wpHead_nil ?_
        refine wpTail_step rfl (fun K hK => ?_)
        go_wp2_with fail
        refine (HP1.out _).mono ?_
        rintro e W7 ⟨rfl, rfl⟩
        go_wp2_with fail
        refine hK _ _ ⟨c1, cR, x0⟩ ?_
        clear hK K
        try simp only [Act.put, List.setIfInBounds_toArray, List.set_cons_zero, List.set_cons_succ]
        refine wpTail_nil ?_
        gi_wp2_with fail
        refine wpIn_region_ord (S := fun w' => w'.cell? ⟨W5.heap.size, 0, none⟩ = some (.string x.glyph) ∧ w'.cell? ⟨W5.heap.size, 1, none⟩ = some (.string x.letter) ∧ w'.cell? ⟨W5.heap.size, 2, none⟩ = some (.int .i64 x.cls)) [0, 1, 2] [3, 4] (by kernel_rfl) (by kernel_rfl) (by kernel_rfl) (fun _ _ _ _ _ h => h) (fun _ _ h => h) ⟨x0, x1, x2⟩ ?_
        simp only [pick, List.filterMap_cons, List.filterMap_nil, List.getElem?_toArray, List.getElem?_cons_zero, List.getElem?_cons_succ]
        repeat (refine wpHead_step (v := ?_) rfl ?_ ?_; rotate_left; (focus (rintro w1 ⟨x0', x1', x2'⟩; go_simp; try with_reducible rfl)); simp only [Act.put, List.setIfInBounds_toArray, List.set_cons_zero, List.set_cons_succ])
        refine wpHead_nil ?_
        have n2 : w.heap.size + 1 ≠ W5.heap.size := by omega
        have n3 : w.heap.size + 1 + 1 ≠ W5.heap.size := by omega
        refine wpTail_step rfl (fun K hK => ?_)
        go_wp2_with fail
        refine hK _ _ ⟨by simp only [World.cell?_drew, cell_far n2]; exact x0, by simp only [World.cell?_drew, cell_far n2]; exact x1, by simp only [World.cell?_drew, cell_far n2]; exact x2⟩ ?_
        clear hK K
        refine wpTail_step rfl (fun K hK => ?_)
        go_wp2_with fail
        refine hK _ _ ⟨by simp only [World.cell?_drew, cell_far n2, cell_far n3]; exact x0, by simp only [World.cell?_drew, cell_far n2, cell_far n3]; exact x1, by simp only [World.cell?_drew, cell_far n2, cell_far n3]; exact x2⟩ ?_
        clear hK K
        refine wpTail_nil ?_
        gi_wp2_with fail
        have HF7 := HF6.out.store (by omega) (by omega) (.string x.glyph) (.string x.letter) (.int .i64 x.cls) (.string x.glyph)
        have hko : KeepsOthers W6 ((((W6.setCell ⟨w.heap.size + 1, 0, none⟩ (.string x.glyph)).setCell ⟨w.heap.size + 1, 1, none⟩ (.string x.letter)).setCell ⟨w.heap.size + 1, 2, none⟩ (.int .i64 x.cls)).setCell ⟨w.heap.size + 1 + 1, 0, none⟩ (.string x.glyph)) := (((KeepsOthers.setCell _ _ _).trans (KeepsOthers.setCell _ _ _)).trans (KeepsOthers.setCell _ _ _)).trans (KeepsOthers.setCell _ _ _)
        exact ⟨keeps_drewN hko 2, rfl, x.glyph, HH.out, HF7.drewN 2⟩
      | false =>
        have HP1 := Lib.hid (fun W => HP.out x.glyph W)
        rw [hb1] at HP1
        by_cases he : x.letter.size = 0
        · have hle := empty_is he
          have HH : Hid (hitG s x = none) := Lib.hid (by
            unfold hitG
            rw [hb1, if_neg (by simp), if_neg (fun h => h.1 (ByteArray.size_eq_zero_iff.1 he))])
          clear hb1 HP he
          refine wpIn_region_ord (S := fun w' => w'.cell? ⟨w.heap.size, 0, none⟩ = some (.pointer (some ⟨Rd, 0, none⟩)) ∧ w'.cell? ⟨Rd, 0, none⟩ = some (.string s) ∧ w'.cell? ⟨W5.heap.size, 0, none⟩ = some (.string x.glyph)) [0, 1, 2, 3, 4, 5, 6] [7] (by kernel_rfl) (by kernel_rfl) (by kernel_rfl) (fun _ _ _ _ _ h => h) (fun _ _ h => h) ⟨c1, cR, x0⟩ ?_
          simp only [pick, List.filterMap_cons, List.filterMap_nil, List.getElem?_toArray, List.getElem?_cons_zero, List.getElem?_cons_succ]
          repeat (refine wpHead_step (v := ?_) rfl ?_ ?_; rotate_left; (focus (rintro w1 ⟨c1', cR', x0'⟩; go_simp; try with_reducible rfl)); simp only [Act.put, List.setIfInBounds_toArray, List.set_cons_zero, List.set_cons_succ])
          refine wpHead_nil ?_
          refine wpTail_step rfl (fun K hK => ?_)
          go_wp2_with fail
          refine (HP1.out _).mono ?_
          rintro e W7 ⟨rfl, rfl⟩
          go_wp2_with fail
          refine hK _ _ ⟨c1, cR, x0⟩ ?_
          clear hK K
          try simp only [Act.put, List.setIfInBounds_toArray, List.set_cons_zero, List.set_cons_succ]
          refine wpTail_nil ?_
          gi_wp2_with fail
          refine wpIn_region_ord (S := fun w' => w'.cell? ⟨w.heap.size, 0, none⟩ = some (.pointer (some ⟨Rd, 0, none⟩)) ∧ w'.cell? ⟨Rd, 0, none⟩ = some (.string s) ∧ w'.cell? ⟨W5.heap.size, 1, none⟩ = some (.string x.letter)) [0, 1, 2, 3, 4, 5, 6, 7, 8, 9, 10] [11, 12, 13] (by kernel_rfl) (by kernel_rfl) (by kernel_rfl) (fun _ _ _ _ _ h => h) (fun _ _ h => h) ⟨c1, cR, x1⟩ ?_
          simp only [pick, List.filterMap_cons, List.filterMap_nil, List.getElem?_toArray, List.getElem?_cons_zero, List.getElem?_cons_succ]
          iterate 11 ((first | (refine wpHead_step (v := ?_) rfl ?_ ?_; rotate_left; (focus (rintro w1 ⟨c1', cR', x1'⟩; go_simp; try with_reducible rfl))) | (refine wpHead_step_w (v := ?_) (by rfl) ?_ ?_; rotate_left; (focus (rintro w1 ⟨c1', cR', x1'⟩; go_simp; try with_reducible rfl))) | (refine wpHead_step_un (by rfl) ?_)); simp only [Act.put, List.setIfInBounds_toArray, List.set_cons_zero, List.set_cons_succ])
          refine wpHead_nil ?_
          refine wpTail_step_un (by rfl) ⟨c1, cR, x1⟩ ?_
          simp only [Act.put, List.setIfInBounds_toArray, List.set_cons_zero, List.set_cons_succ]
          refine wpTail_step_un (by rfl) ⟨c1, cR, x1⟩ ?_
          simp only [Act.put, List.setIfInBounds_toArray, List.set_cons_zero, List.set_cons_succ]
          refine wpTail_step rfl (fun K hK => ?_)
          go_wp2_with fail
          refine hK _ _ ⟨c1, cR, x1⟩ ?_
          clear hK K
          try simp only [Act.put, List.setIfInBounds_toArray, List.set_cons_zero, List.set_cons_succ]
          refine wpTail_nil ?_
          gi_wp2_with fail
          exact ⟨keeps_drewN (KeepsOthers.refl _) 2, HH.out, HF6.out.drewN 2, (Below.refl _ _).drew.drew⟩
        · have hle := empty_not (u := x.letter) (by omega)
          have HP2 := Lib.hid (fun W => HP.out (tick x.letter) W)
          cases hb2 : begins s (tick x.letter) with
          | true =>
            rw [hb2] at HP2
            have HH : Hid (hitG s x = some (tick x.letter)) := Lib.hid (by
              unfold hitG
              rw [hb1, if_neg (by simp), if_pos ⟨fun h => he (by rw [h]; rfl), hb2⟩])
            clear hb1 hb2 HP he
            unfold tick at HP2
            refine wpIn_region_ord (S := fun w' => w'.cell? ⟨w.heap.size, 0, none⟩ = some (.pointer (some ⟨Rd, 0, none⟩)) ∧ w'.cell? ⟨Rd, 0, none⟩ = some (.string s) ∧ w'.cell? ⟨W5.heap.size, 0, none⟩ = some (.string x.glyph)) [0, 1, 2, 3, 4, 5, 6] [7] (by kernel_rfl) (by kernel_rfl) (by kernel_rfl) (fun _ _ _ _ _ h => h) (fun _ _ h => h) ⟨c1, cR, x0⟩ ?_
            simp only [pick, List.filterMap_cons, List.filterMap_nil, List.getElem?_toArray, List.getElem?_cons_zero, List.getElem?_cons_succ]
            repeat (refine wpHead_step (v := ?_) rfl ?_ ?_; rotate_left; (focus (rintro w1 ⟨c1', cR', x0'⟩; go_simp; try with_reducible rfl)); simp only [Act.put, List.setIfInBounds_toArray, List.set_cons_zero, List.set_cons_succ])
            refine wpHead_nil ?_
            refine wpTail_step rfl (fun K hK => ?_)
            go_wp2_with fail
            refine (HP1.out _).mono ?_
            rintro e W7 ⟨rfl, rfl⟩
            go_wp2_with fail
            refine hK _ _ ⟨c1, cR, x0⟩ ?_
            clear hK K
            try simp only [Act.put, List.setIfInBounds_toArray, List.set_cons_zero, List.set_cons_succ]
            refine wpTail_nil ?_
            gi_wp2_with fail
            refine wpIn_region_ord (S := fun w' => w'.cell? ⟨w.heap.size, 0, none⟩ = some (.pointer (some ⟨Rd, 0, none⟩)) ∧ w'.cell? ⟨Rd, 0, none⟩ = some (.string s) ∧ w'.cell? ⟨W5.heap.size, 1, none⟩ = some (.string x.letter)) [0, 1, 2, 3, 4, 5, 6, 7, 8, 9, 10] [11, 12, 13] (by kernel_rfl) (by kernel_rfl) (by kernel_rfl) (fun _ _ _ _ _ h => h) (fun _ _ h => h) ⟨c1, cR, x1⟩ ?_
            simp only [pick, List.filterMap_cons, List.filterMap_nil, List.getElem?_toArray, List.getElem?_cons_zero, List.getElem?_cons_succ]
            iterate 11 ((first | (refine wpHead_step (v := ?_) rfl ?_ ?_; rotate_left; (focus (rintro w1 ⟨c1', cR', x1'⟩; go_simp; try with_reducible rfl))) | (refine wpHead_step_w (v := ?_) (by rfl) ?_ ?_; rotate_left; (focus (rintro w1 ⟨c1', cR', x1'⟩; go_simp; try with_reducible rfl))) | (refine wpHead_step_un (by rfl) ?_)); simp only [Act.put, List.setIfInBounds_toArray, List.set_cons_zero, List.set_cons_succ])
            refine wpHead_nil ?_
            refine wpTail_step_w (by rfl) (fun K hK => ?_)
            go_wp2_with fail
            refine hK _ _ ⟨c1, cR, x1⟩ ?_
            clear hK K
            try simp only [Act.put, List.setIfInBounds_toArray, List.set_cons_zero, List.set_cons_succ]
            refine wpTail_step_w (by rfl) (fun K hK => ?_)
            go_wp2_with fail
            refine (HP2.out _).mono ?_
            rintro e W8 ⟨rfl, rfl⟩
            go_wp2_with fail
            refine hK _ _ ⟨c1, cR, x1⟩ ?_
            clear hK K
            try simp only [Act.put, List.setIfInBounds_toArray, List.set_cons_zero, List.set_cons_succ]
            refine wpTail_step rfl (fun K hK => ?_)
            go_wp2_with fail
            refine hK _ _ ⟨c1, cR, x1⟩ ?_
            clear hK K
            try simp only [Act.put, List.setIfInBounds_toArray, List.set_cons_zero, List.set_cons_succ]
            refine wpTail_nil ?_
            gi_wp2_with fail
            have n2 : w.heap.size + 1 ≠ W5.heap.size := by omega
            have n3 : w.heap.size + 1 + 1 ≠ W5.heap.size := by omega
            have hnl : ¬ 9223372036854775807 < 1 + x.letter.size := by omega
            refine wpIn_region_ord (S := fun w' => w'.cell? ⟨W5.heap.size, 0, none⟩ = some (.string x.glyph) ∧ w'.cell? ⟨W5.heap.size, 1, none⟩ = some (.string x.letter) ∧ w'.cell? ⟨W5.heap.size, 2, none⟩ = some (.int .i64 x.cls)) [0, 1, 2, 3] [4, 5] (by kernel_rfl) (by kernel_rfl) (by kernel_rfl) (fun _ _ _ _ _ h => h) (fun _ _ h => h) ⟨x0, x1, x2⟩ ?_
            simp only [pick, List.filterMap_cons, List.filterMap_nil, List.getElem?_toArray, List.getElem?_cons_zero, List.getElem?_cons_succ]
            repeat (refine wpHead_step (v := ?_) rfl ?_ ?_; rotate_left; (focus (rintro w1 ⟨x0', x1', x2'⟩; go_simp; try with_reducible rfl)); simp only [Act.put, List.setIfInBounds_toArray, List.set_cons_zero, List.set_cons_succ])
            refine wpHead_nil ?_
            clear hnl
            refine wpTail_step rfl (fun K hK => ?_)
            go_wp2_with fail
            refine hK _ _ ⟨by simp only [World.cell?_drew, cell_far n2]; exact x0, by simp only [World.cell?_drew, cell_far n2]; exact x1, by simp only [World.cell?_drew, cell_far n2]; exact x2⟩ ?_
            clear hK K
            refine wpTail_step rfl (fun K hK => ?_)
            go_wp2_with fail
            refine hK _ _ ⟨by simp only [World.cell?_drew, cell_far n2, cell_far n3]; exact x0, by simp only [World.cell?_drew, cell_far n2, cell_far n3]; exact x1, by simp only [World.cell?_drew, cell_far n2, cell_far n3]; exact x2⟩ ?_
            clear hK K
            refine wpTail_nil ?_
            gi_wp2_with fail
            have HF7 := HF6.out.store (by omega) (by omega) (.string x.glyph) (.string x.letter) (.int .i64 x.cls) (.string (ByteArray.mk #[96] ++ x.letter))
            have hko : KeepsOthers W6 ((((W6.setCell ⟨w.heap.size + 1, 0, none⟩ (.string x.glyph)).setCell ⟨w.heap.size + 1, 1, none⟩ (.string x.letter)).setCell ⟨w.heap.size + 1, 2, none⟩ (.int .i64 x.cls)).setCell ⟨w.heap.size + 1 + 1, 0, none⟩ (.string (ByteArray.mk #[96] ++ x.letter))) := (((KeepsOthers.setCell _ _ _).trans (KeepsOthers.setCell _ _ _)).trans (KeepsOthers.setCell _ _ _)).trans (KeepsOthers.setCell _ _ _)
            exact ⟨keeps_drewN hko 3, rfl, _, HH.out, HF7.drewN 3⟩
          | false =>
            rw [hb2] at HP2
            have HH : Hid (hitG s x = none) := Lib.hid (by
              unfold hitG
              rw [hb1, if_neg (by simp), if_neg (fun h => by rw [hb2] at h; exact absurd h.2 (by simp))])
            clear hb1 hb2 HP he
            unfold tick at HP2
            refine wpIn_region_ord (S := fun w' => w'.cell? ⟨w.heap.size, 0, none⟩ = some (.pointer (some ⟨Rd, 0, none⟩)) ∧ w'.cell? ⟨Rd, 0, none⟩ = some (.string s) ∧ w'.cell? ⟨W5.heap.size, 0, none⟩ = some (.string x.glyph)) [0, 1, 2, 3, 4, 5, 6] [7] (by kernel_rfl) (by kernel_rfl) (by kernel_rfl) (fun _ _ _ _ _ h => h) (fun _ _ h => h) ⟨c1, cR, x0⟩ ?_
            simp only [pick, List.filterMap_cons, List.filterMap_nil, List.getElem?_toArray, List.getElem?_cons_zero, List.getElem?_cons_succ]
            repeat (refine wpHead_step (v := ?_) rfl ?_ ?_; rotate_left; (focus (rintro w1 ⟨c1', cR', x0'⟩; go_simp; try with_reducible rfl)); simp only [Act.put, List.setIfInBounds_toArray, List.set_cons_zero, List.set_cons_succ])
            refine wpHead_nil ?_
            refine wpTail_step rfl (fun K hK => ?_)
            go_wp2_with fail
            refine (HP1.out _).mono ?_
            rintro e W7 ⟨rfl, rfl⟩
            go_wp2_with fail
            refine hK _ _ ⟨c1, cR, x0⟩ ?_
            clear hK K
            try simp only [Act.put, List.setIfInBounds_toArray, List.set_cons_zero, List.set_cons_succ]
            refine wpTail_nil ?_
            gi_wp2_with fail
            refine wpIn_region_ord (S := fun w' => w'.cell? ⟨w.heap.size, 0, none⟩ = some (.pointer (some ⟨Rd, 0, none⟩)) ∧ w'.cell? ⟨Rd, 0, none⟩ = some (.string s) ∧ w'.cell? ⟨W5.heap.size, 1, none⟩ = some (.string x.letter)) [0, 1, 2, 3, 4, 5, 6, 7, 8, 9, 10] [11, 12, 13] (by kernel_rfl) (by kernel_rfl) (by kernel_rfl) (fun _ _ _ _ _ h => h) (fun _ _ h => h) ⟨c1, cR, x1⟩ ?_
            simp only [pick, List.filterMap_cons, List.filterMap_nil, List.getElem?_toArray, List.getElem?_cons_zero, List.getElem?_cons_succ]
            iterate 11 ((first | (refine wpHead_step (v := ?_) rfl ?_ ?_; rotate_left; (focus (rintro w1 ⟨c1', cR', x1'⟩; go_simp; try with_reducible rfl))) | (refine wpHead_step_w (v := ?_) (by rfl) ?_ ?_; rotate_left; (focus (rintro w1 ⟨c1', cR', x1'⟩; go_simp; try with_reducible rfl))) | (refine wpHead_step_un (by rfl) ?_)); simp only [Act.put, List.setIfInBounds_toArray, List.set_cons_zero, List.set_cons_succ])
            refine wpHead_nil ?_
            refine wpTail_step_w (by rfl) (fun K hK => ?_)
            go_wp2_with fail
            refine hK _ _ ⟨c1, cR, x1⟩ ?_
            clear hK K
            try simp only [Act.put, List.setIfInBounds_toArray, List.set_cons_zero, List.set_cons_succ]
            refine wpTail_step_w (by rfl) (fun K hK => ?_)
            go_wp2_with fail
            refine (HP2.out _).mono ?_
            rintro e W8 ⟨rfl, rfl⟩
            go_wp2_with fail
            refine hK _ _ ⟨c1, cR, x1⟩ ?_
            clear hK K
            try simp only [Act.put, List.setIfInBounds_toArray, List.set_cons_zero, List.set_cons_succ]
            refine wpTail_step rfl (fun K hK => ?_)
            go_wp2_with fail
            refine hK _ _ ⟨c1, cR, x1⟩ ?_
            clear hK K
            try simp only [Act.put, List.setIfInBounds_toArray, List.set_cons_zero, List.set_cons_succ]
            refine wpTail_nil ?_
            gi_wp2_with fail
            exact ⟨keeps_drewN (KeepsOthers.refl _) 2, HH.out, HF6.out.drewN 2, (Below.refl _ _).drew.drew⟩
    · rintro e W' (⟨rfl, hB', W3, hB3, rfl, hh3, hF3, hb3⟩ | ⟨rfl, c, hB', W3, hB3, rfl, rfl, a, ha, hF3⟩)
      · refine .inl ⟨rfl, ⟨fun y hy => ?_, hF3.put (by omega)⟩, ?_, fun k hk1 hk2 => ?_⟩
        · rw [take_one hx] at hy
          rcases List.mem_append.1 hy with h | h
          · exact hh y h
          · rw [List.mem_singleton.1 h]; exact hh3
        · have := hb3.size
          simp [World.putObj]
          omega
        · rw [hzW] at hk1
          exact (World.putObj_heap_other (by omega)).trans ((hb3.block k (by omega)).trans (ho6 k hk1 hk2))
      · exact .inr ⟨rfl, x, a, gFirst_hit hx hh ha, hF3.put (by omega)⟩
  · rintro e W' ⟨hv, (⟨hh, hF⟩ | ⟨x, a, hg, hF⟩)⟩
    · refine ⟨hv, .inl ⟨hF.books, ?_⟩⟩
      have hF8 := hF.put (r' := { r with state := .exhausted }) (by omega)
      generalize W'.putObj (w.heap.size + 4 + 1) (.loop { r with state := .exhausted }) = W8 at *
      have HF8 := Lib.hid hF8
      have e0 := hF8.b2
      have e1 := hF8.b3
      have z0 : ∀ j, W8.frozen? ⟨w.heap.size + 1, j, none⟩ = false := fun j => frozen_of_row W8 _ j _ _ e0
      have z1 : ∀ j, W8.frozen? ⟨w.heap.size + 2, j, none⟩ = false := fun j => frozen_of_row W8 _ j _ _ e1
      have x0 : W8.cell? ⟨w.heap.size + 1, 0, none⟩ = some (.string ByteArray.empty) := by simp [World.cell?, e0]
      have x1 : W8.cell? ⟨w.heap.size + 1, 1, none⟩ = some (.string ByteArray.empty) := by simp [World.cell?, e0]
      have x2 : W8.cell? ⟨w.heap.size + 1, 2, none⟩ = some (.int .i64 0) := by simp [World.cell?, e0]
      have x3 : W8.cell? ⟨w.heap.size + 2, 0, none⟩ = some (.string ByteArray.empty) := by simp [World.cell?, e1]
      clear hF8 hF hv hNW hpb hF0 hwW hVW hr hBk hW hXV hbV HN3
      go_wp2_with fail
      have HF7 := Lib.hid (HF8.out.store (by omega) (by omega) (.string (ByteArray.mk #[])) (.string (ByteArray.mk #[])) (.int .i64 0) (.string (ByteArray.mk #[])))
      generalize (((W8.setCell ⟨w.heap.size + 1, 0, none⟩ (.string (ByteArray.mk #[]))).setCell ⟨w.heap.size + 1, 1, none⟩ (.string (ByteArray.mk #[]))).setCell ⟨w.heap.size + 1, 2, none⟩ (.int .i64 0)).setCell ⟨w.heap.size + 1 + 1, 0, none⟩ (.string (ByteArray.mk #[])) = W7 at *
      have f0 := HF7.out.b2
      have f1 := HF7.out.b3
      have hD := HF7.out.books.calls
      have hoD : ∀ j, j ≠ w.heap.size + 4 → (W7.putObj (w.heap.size + 4) (.deferred none)).heap[j]? = W7.heap[j]? := fun j hj => World.putObj_heap_other hj
      have g0 := (hoD (w.heap.size + 1) (by omega)).trans f0
      have g1 := (hoD (w.heap.size + 1 + 1) (by omega)).trans f1
      have hkk : KeptBut w.heap.size T w (W7.putObj (w.heap.size + 4) (.deferred none)) := HF7.out.kept.trans ⟨rfl, rfl, rfl, by simp [World.putObj], fun k hk _ => hoD k (by omega)⟩
      refine ⟨by simp, .inl ⟨_, _, rfl, run_takeDeferred hD, ?_⟩⟩
      generalize W7.putObj (w.heap.size + 4) (.deferred none) = W9 at *
      have y0 : W9.cell? ⟨w.heap.size + 1, 0, none⟩ = some (.string (ByteArray.mk #[])) := by simp [World.cell?, g0]
      have y1 : W9.cell? ⟨w.heap.size + 1, 1, none⟩ = some (.string (ByteArray.mk #[])) := by simp [World.cell?, g0]
      have y2 : W9.cell? ⟨w.heap.size + 1, 2, none⟩ = some (.int .i64 0) := by simp [World.cell?, g0]
      have y3 : W9.cell? ⟨w.heap.size + 1 + 1, 0, none⟩ = some (.string (ByteArray.mk #[])) := by simp [World.cell?, g1]
      exact ⟨.tuple #[.agg #[.string (ByteArray.mk #[]), .string (ByteArray.mk #[]), .int .i64 0], .string (ByteArray.mk #[])], by simp [results, Tryz.results104, go_sem, y0, y1, y2, y3], noGly, ByteArray.mk #[], rfl, gFirst_no hh, hkk⟩
    · refine ⟨hv, .inr ⟨.ret, hF.books, ?_⟩⟩
      have hF8 := hF.put (r' := { r with state := .exhausted, pending := some .ret }) (by omega)
      generalize W'.putObj (w.heap.size + 4 + 1) (.loop { r with state := .exhausted, pending := some .ret }) = W8 at *
      have HF8 := Lib.hid hF8
      have e0 := hF8.b2
      have e1 := hF8.b3
      have x0 : W8.cell? ⟨w.heap.size + 1, 0, none⟩ = some (.string x.glyph) := by simp [World.cell?, e0]
      have x1 : W8.cell? ⟨w.heap.size + 1, 1, none⟩ = some (.string x.letter) := by simp [World.cell?, e0]
      have x2 : W8.cell? ⟨w.heap.size + 1, 2, none⟩ = some (.int .i64 x.cls) := by simp [World.cell?, e0]
      have x3 : W8.cell? ⟨w.heap.size + 2, 0, none⟩ = some (.string a) := by simp [World.cell?, e1]
      clear hF8 hF hv hNW hpb hF0 hwW hVW hr hBk hW hXV hbV HN3
      gi_wp2_with fail
      have hD := HF8.out.books.calls
      have hoD : ∀ j, j ≠ w.heap.size + 4 → (W8.putObj (w.heap.size + 4) (.deferred none)).heap[j]? = W8.heap[j]? := fun j hj => World.putObj_heap_other hj
      have g0 := (hoD (w.heap.size + 1) (by omega)).trans e0
      have g1 := (hoD (w.heap.size + 1 + 1) (by omega)).trans e1
      have hkk : KeptBut w.heap.size T w (W8.putObj (w.heap.size + 4) (.deferred none)) := HF8.out.kept.trans ⟨rfl, rfl, rfl, by simp [World.putObj], fun k hk _ => hoD k (by omega)⟩
      refine ⟨by simp, .inl ⟨_, _, rfl, run_takeDeferred hD, ?_⟩⟩
      generalize W8.putObj (w.heap.size + 4) (.deferred none) = W9 at *
      have y0 : W9.cell? ⟨w.heap.size + 1, 0, none⟩ = some (.string x.glyph) := by simp [World.cell?, g0]
      have y1 : W9.cell? ⟨w.heap.size + 1, 1, none⟩ = some (.string x.letter) := by simp [World.cell?, g0]
      have y2 : W9.cell? ⟨w.heap.size + 1, 2, none⟩ = some (.int .i64 x.cls) := by simp [World.cell?, g0]
      have y3 : W9.cell? ⟨w.heap.size + 1 + 1, 0, none⟩ = some (.string a) := by simp [World.cell?, g1]
      exact ⟨.tuple #[.agg #[.string x.glyph, .string x.letter, .int .i64 x.cls], .string a], by simp [results, Tryz.results104, go_sem, y0, y1, y2, y3], x, a, rfl, hg, hkk⟩
end Go.Proofs.YtflpihedhccdfaaGreatDoor
