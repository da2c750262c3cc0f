/-
  Are two lists of tokens the same; are two brackets of one kind: by the document's program text.
-/
import Derived.Test.YtlokkdbgihbnhaaDoorProg
import Derived.Test.YtlokkdbgihbnhaaDoorReg
import Derived.WalkKit
import Derived.WalkSpells
import Derived.WalkLawsBesides
import Derived.Lib.Hide
import Derived.Lib.MinMax
import Derived.Deep.QuietTactic
import Derived.BigQuiet
import Derived.OwnWalk
import Derived.Deep.AppendLies
import Derived.KernelRfl
import Derived.Test.YtlokkdbgihbnhaaDoorGrpB
import Derived.Test.YtlokkdbgihbnhaaDoorGrpG
set_option linter.unusedSimpArgs false
set_option linter.unusedVariables false
namespace Go.Proofs.YtlokkdbgihbnhaaDoor
open Go.RowKit

theorem Tok.ne_ways {x y : Tok} (h : x ≠ y) : x.kind ≠ y.kind ∨ (x.kind = y.kind ∧ x.text ≠ y.text) ∨ (x.kind = y.kind ∧ x.text = y.text ∧ x.glyph ≠ y.glyph) := by
  by_cases h1 : x.kind = y.kind
  · by_cases h2 : x.text = y.text
    · refine Or.inr (Or.inr ⟨h1, h2, fun h3 => h ?_⟩)
      cases x; cases y
      simp only at h1 h2 h3
      subst h1 h2 h3
      rfl
    · exact Or.inr (Or.inl ⟨h1, h2⟩)
  · exact Or.inl h1

set_option maxRecDepth 100000 in
set_option maxHeartbeats 2000000 in
theorem same_any (A B : Option Addr) (c d : Nat) (l m : List Tok) (w : World) (hl : l.length ≤ 1000000) (hm : m.length ≤ 1000000) (hA : HoldsT w A l) (hB : HoldsT w B m) :
    Calls Tryd.prog 19 #[.slice A l.length c, .slice B m.length d] w fun r w' => r = .returned (.bool (decide (l = m))) ∧ ∃ n, w' = w.drewN n := by
  by_cases hlen : l.length = m.length
  · have Hall : Hid (l.take l.length = m.take l.length → l = m) := Lib.hid (by
      intro h
      rw [List.take_of_length_le (Nat.le_refl _), List.take_of_length_le (by omega)] at h
      exact h)
    have hq : (l.length : Int) = (m.length : Int) := by omega
    go_enter Tryd.func19, Tryd.ntmps19
    go_wp2
    go_loopw [5] (fun i wr => ∃ k : Nat, k ≤ l.length ∧ i = .int .i64 k ∧ l.take k = m.take k ∧ ∃ n, wr = w.drewN n) (fun i _ => l.length - (intOf i).toNat)
    case atStart => exact ⟨0, by omega, rfl, by simp, 0, rfl⟩
    case round =>
      obtain ⟨k, hk, rfl, hr, n, rfl⟩ := hrel
      by_cases hlt : k < l.length
      · have hlt2 : k < m.length := by omega
        obtain ⟨b1, o1, rfl, c1, c2, c3⟩ := hA k l[k] (List.getElem?_eq_getElem hlt)
        obtain ⟨b2, o2, rfl, d1, d2, d3⟩ := hB k m[k] (List.getElem?_eq_getElem hlt2)
        have Hs : Hid (l[k] = m[k] → l.take (k + 1) = m.take (k + 1)) := Lib.hid (fun h => by rw [List.take_succ_eq_append_getElem hlt, List.take_succ_eq_append_getElem hlt2, hr, h])
        have Hn : Hid (l[k] ≠ m[k] → l ≠ m) := Lib.hid (fun h e => h (by subst e; rfl))
        clear hr
        generalize l[k] = x at *
        generalize m[k] = y at *
        have lt2 : (k : Int) < (m.length : Int) := by omega
        by_cases he : x = y
        · have Hz := Lib.hid (Hs.out he)
          subst he
          have q2 := bytes_beq_yes (rfl : x.text = x.text)
          have q3 := bytes_beq_yes (rfl : x.glyph = x.glyph)
          clear Hs Hn
          go_wp2
          go_quiet (fail)
          go_wp2
          go_roundw
          case rel => exact ⟨k + 1, by omega, by go_num, Hz.out, _, rfl⟩
          case measure => simp [intOf]; omega
        · have Hz := Lib.hid (Hn.out he)
          have hw := Tok.ne_ways he
          clear Hs Hn he
          rcases hw with h1 | ⟨h1, h2⟩ | ⟨h1, h2, h3⟩
          · have q1 : (x.kind == y.kind) = false := by simpa using h1
            have q2 : (x.kind != y.kind) = true := by rw [bne, q1]; rfl
            clear h1
            go_wp2
            go_quiet (fail)
            go_wp2
            go_ret
            exact ⟨by simp [Hz.out], n + nq, by simp [World.drewN, Nat.add_assoc]⟩
          · have q1 : (x.kind == y.kind) = true := by simpa using h1
            have q2 := bytes_beq_no h2
            clear h2
            go_wp2
            go_quiet (fail)
            go_wp2
            go_ret
            exact ⟨by simp [Hz.out], n + nq, by simp [World.drewN, Nat.add_assoc]⟩
          · have q1 : (x.kind == y.kind) = true := by simpa using h1
            have q2 := bytes_beq_yes h2
            have q3 := bytes_beq_no h3
            clear h2 h3
            go_wp2
            go_quiet (fail)
            go_wp2
            go_ret
            exact ⟨by simp [Hz.out], n + nq, by simp [World.drewN, Nat.add_assoc]⟩
      · obtain rfl : k = l.length := by omega
        have Hz := Lib.hid (Hall.out hr)
        clear hr
        go_wp2
        go_ret
        exact ⟨by simp [Hz.out], _, rfl⟩
  · have hq : ¬ (l.length : Int) = (m.length : Int) := by omega
    have hne : l ≠ m := fun e => hlen (by rw [e])
    have Hne := Lib.hid hne
    have q1 : ((l.length : Int) == (m.length : Int)) = false := by simpa using hq
    have q2 : ((l.length : Int) != (m.length : Int)) = true := by rw [bne, q1]; rfl
    clear hne hlen
    go_enter Tryd.func19, Tryd.ntmps19
    go_wp2
    go_ret
    exact ⟨by simp [Hne.out], 0, rfl⟩

set_option maxRecDepth 100000 in
set_option maxHeartbeats 2000000 in
theorem partners_any (x y : Tok) (w : World) :
    Calls Tryd.prog 30 #[x.val, y.val] w fun r w' => r = .returned (.bool (pair2 x y)) ∧ Below w.heap.size w w' := by
  have H1 := Lib.hid (fun u => rIsSign_any x gPar u)
  have H2 := Lib.hid (fun u => rIsSign_any y gPas u)
  have H3 := Lib.hid (fun u => rIsSign_any x gCur u)
  have H4 := Lib.hid (fun u => rIsSign_any y gCus u)
  unfold pair2
  obtain ⟨k, t, h⟩ := x
  obtain ⟨k', t', h'⟩ := y
  generalize (Tok.mk k t h).isSign gPar = p1 at *
  generalize (Tok.mk k' t' h').isSign gPas = p2 at *
  generalize (Tok.mk k t h).isSign gCur = p3 at *
  generalize (Tok.mk k' t' h').isSign gCus = p4 at *
  unfold Tok.val at *
  simp only at *
  obtain ⟨w0, hw0⟩ : ∃ w0, (w.alloc (.cells #[.int .i64 k, .string t, .string h] 31)).alloc (.cells #[.int .i64 k', .string t', .string h'] 31) = w0 := ⟨_, rfl⟩
  have B0 : Hid (Below w.heap.size w w0) := Lib.hid (by rw [← hw0]; exact ((Below.refl _ _).alloc (Nat.le_refl _) _).alloc (by simp) _)
  have s0 : w0.heap.size = w.heap.size + 2 := by rw [← hw0]; simp
  have c1 : w0.cell? ⟨w.heap.size, 0, none⟩ = some (.int .i64 k) := by rw [← hw0]; simp
  have c2 : w0.cell? ⟨w.heap.size, 1, none⟩ = some (.string t) := by rw [← hw0]; simp
  have c3 : w0.cell? ⟨w.heap.size, 2, none⟩ = some (.string h) := by rw [← hw0]; simp
  have hn : w0.heap[w.heap.size + 1]? = some (.cells #[.int .i64 k', .string t', .string h'] 31 (0, 0)) := by
    rw [← hw0]
    have := heap_alloc_new (w.alloc (.cells #[.int .i64 k, .string t, .string h] 31)) (.cells #[.int .i64 k', .string t', .string h'] 31)
    rwa [World.size_alloc] at this
  have d1 : w0.cell? ⟨w.heap.size + 1, 0, none⟩ = some (.int .i64 k') := by simp [World.cell?, hn]
  have d2 : w0.cell? ⟨w.heap.size + 1, 1, none⟩ = some (.string t') := by simp [World.cell?, hn]
  have d3 : w0.cell? ⟨w.heap.size + 1, 2, none⟩ = some (.string h') := by simp [World.cell?, hn]
  clear hn
  have step : ∀ {u v : World}, Below u.heap.size u v → w0.heap.size ≤ u.heap.size → Below w0.heap.size u v := fun hb hl => hb.mono hl
  go_enter Tryd.func30, Tryd.ntmps30
  go_wp2_with fail
  try rw [hw0]
  clear hw0
  refine (H1.out _).mono ?_
  rintro r w1 ⟨rfl, hb1⟩
  have l1 := hb1.size
  have e1 := (hb1.cell (p := ⟨w.heap.size, 0, none⟩) (by simp; omega)).trans c1
  have e2 := (hb1.cell (p := ⟨w.heap.size, 1, none⟩) (by simp; omega)).trans c2
  have e3 := (hb1.cell (p := ⟨w.heap.size, 2, none⟩) (by simp; omega)).trans c3
  have f1 := (hb1.cell (p := ⟨w.heap.size + 1, 0, none⟩) (by simp; omega)).trans d1
  have f2 := (hb1.cell (p := ⟨w.heap.size + 1, 1, none⟩) (by simp; omega)).trans d2
  have f3 := (hb1.cell (p := ⟨w.heap.size + 1, 2, none⟩) (by simp; omega)).trans d3
  have B1 : Hid (Below w0.heap.size w0 w1) := Lib.hid hb1
  clear hb1 c1 c2 c3 d1 d2 d3
  cases p1 with
  | true =>
    go_wp2_with fail
    refine (H2.out _).mono ?_
    rintro r w2 ⟨rfl, hb1⟩
    have l2 := hb1.size
    have c1 := (hb1.cell (p := ⟨w.heap.size, 0, none⟩) (by simp; omega)).trans e1
    have c2 := (hb1.cell (p := ⟨w.heap.size, 1, none⟩) (by simp; omega)).trans e2
    have c3 := (hb1.cell (p := ⟨w.heap.size, 2, none⟩) (by simp; omega)).trans e3
    have d1 := (hb1.cell (p := ⟨w.heap.size + 1, 0, none⟩) (by simp; omega)).trans f1
    have d2 := (hb1.cell (p := ⟨w.heap.size + 1, 1, none⟩) (by simp; omega)).trans f2
    have d3 := (hb1.cell (p := ⟨w.heap.size + 1, 2, none⟩) (by simp; omega)).trans f3
    have B2 : Hid (Below w0.heap.size w0 w2) := Lib.hid (B1.out.trans (hb1.mono l1))
    clear hb1 e1 e2 e3 f1 f2 f3
    cases p2 with
    | true =>
      go_wp2_with fail
      all_goals go_ret
      all_goals exact ⟨rfl, B0.out.trans (B2.out.mono (by omega))⟩
    | false =>
      go_wp2_with fail
      refine (H3.out _).mono ?_
      rintro r w3 ⟨rfl, hb1⟩
      have l3 := hb1.size
      have e1 := (hb1.cell (p := ⟨w.heap.size + 1, 0, none⟩) (by simp; omega)).trans d1
      have e2 := (hb1.cell (p := ⟨w.heap.size + 1, 1, none⟩) (by simp; omega)).trans d2
      have e3 := (hb1.cell (p := ⟨w.heap.size + 1, 2, none⟩) (by simp; omega)).trans d3
      have B3 : Hid (Below w0.heap.size w0 w3) := Lib.hid (B2.out.trans (hb1.mono (by omega)))
      clear hb1 c1 c2 c3 d1 d2 d3
      cases p3 with
      | false =>
        go_wp2_with fail
        all_goals go_ret
        all_goals exact ⟨rfl, B0.out.trans (B3.out.mono (by omega))⟩
      | true =>
        go_wp2_with fail
        refine (H4.out _).mono ?_
        rintro r w4 ⟨rfl, hb1⟩
        have B4 : Hid (Below w0.heap.size w0 w4) := Lib.hid (B3.out.trans (hb1.mono (by omega)))
        clear hb1 e1 e2 e3
        cases p4
        all_goals
          go_wp2_with fail
          all_goals go_ret
          all_goals exact ⟨rfl, B0.out.trans (B4.out.mono (by omega))⟩
  | false =>
    go_wp2_with fail
    refine (H3.out _).mono ?_
    rintro r w3 ⟨rfl, hb1⟩
    have l3 := hb1.size
    have c1 := (hb1.cell (p := ⟨w.heap.size + 1, 0, none⟩) (by simp; omega)).trans f1
    have c2 := (hb1.cell (p := ⟨w.heap.size + 1, 1, none⟩) (by simp; omega)).trans f2
    have c3 := (hb1.cell (p := ⟨w.heap.size + 1, 2, none⟩) (by simp; omega)).trans f3
    have B3 : Hid (Below w0.heap.size w0 w3) := Lib.hid (B1.out.trans (hb1.mono (by omega)))
    clear hb1 e1 e2 e3 f1 f2 f3
    cases p3 with
    | false =>
      go_wp2_with fail
      all_goals go_ret
      all_goals exact ⟨rfl, B0.out.trans (B3.out.mono (by omega))⟩
    | true =>
      go_wp2_with fail
      refine (H4.out _).mono ?_
      rintro r w4 ⟨rfl, hb1⟩
      have B4 : Hid (Below w0.heap.size w0 w4) := Lib.hid (B3.out.trans (hb1.mono (by omega)))
      clear hb1 c1 c2 c3
      cases p4
      all_goals
        go_wp2_with fail
        all_goals go_ret
        all_goals exact ⟨rfl, B0.out.trans (B4.out.mono (by omega))⟩
end Go.Proofs.YtlokkdbgihbnhaaDoor
