/-
  What the small functions tell of a token's bracket; the brackets of a list's beginnings. No program here.
-/
import Derived.Test.YtlokkdbgihbnhabDoorGrpD
set_option linter.unusedSimpArgs false
set_option linter.unusedVariables false
namespace Go.Proofs.YtlokkdbgihbnhabDoor
open Go.RowKit

def closerOf (b : Bool) : ByteArray := if b = true then gPas else gCus
def Tok.ok (x : Tok) : Bool := (closeOf x.glyph).isSome && decide (x.kind = 8)

theorem br_ways (x : Tok) : (x.br = none ∧ x.opn = false ∧ x.cls = false ∧ x.brk = false ∧ x.ok = false) ∨
    (∃ b, x.br = some (true, b) ∧ x.opn = true ∧ x.cls = false ∧ x.brk = true ∧ x.ok = true ∧ closeOf x.glyph = some (closerOf b)) ∨
    (∃ b, x.br = some (false, b) ∧ x.opn = false ∧ x.cls = true ∧ x.brk = true ∧ x.ok = false ∧ x.glyph = closerOf b) := by
  obtain ⟨k, t, g⟩ := x
  have n1 : gPas ≠ gPar := by decide
  have n2 : gPas ≠ gCur := by decide
  have n3 : gCus ≠ gPar := by decide
  have n4 : gCus ≠ gCur := by decide
  have n5 : gCur ≠ gPar := by decide
  have n6 : gCus ≠ gPas := by decide
  have m1 := n1.symm
  have m2 := n2.symm
  have m3 := n3.symm
  have m4 := n4.symm
  have m5 := n5.symm
  have m6 := n6.symm
  by_cases hk : k = 8
  · subst hk
    by_cases h1 : g = gPar
    · subst h1
      right; left
      exact ⟨true, by simp [Tok.br, Tok.opn, Tok.cls, Tok.brk, Tok.ok, Tok.isSign, closeOf, closerOf, n1, n2, n3, n4, n5, n6, m1, m2, m3, m4, m5, m6]⟩
    · by_cases h2 : g = gCur
      · subst h2
        right; left
        exact ⟨false, by simp [Tok.br, Tok.opn, Tok.cls, Tok.brk, Tok.ok, Tok.isSign, closeOf, closerOf, n1, n2, n3, n4, n5, n6, m1, m2, m3, m4, m5, m6]⟩
      · by_cases h3 : g = gPas
        · subst h3
          right; right
          exact ⟨true, by simp [Tok.br, Tok.opn, Tok.cls, Tok.brk, Tok.ok, Tok.isSign, closeOf, closerOf, n1, n2, n3, n4, n5, n6, m1, m2, m3, m4, m5, m6]⟩
        · by_cases h4 : g = gCus
          · subst h4
            right; right
            exact ⟨false, by simp [Tok.br, Tok.opn, Tok.cls, Tok.brk, Tok.ok, Tok.isSign, closeOf, closerOf, n1, n2, n3, n4, n5, n6, m1, m2, m3, m4, m5, m6]⟩
          · left
            refine ⟨?_, ?_, ?_, ?_, ?_⟩
            · simp [Tok.br, h1, h2, h3, h4]
            · simp [Tok.opn, Tok.isSign, h1, h2]
            · simp [Tok.cls, Tok.isSign, h3, h4]
            · simp [Tok.brk, Tok.isSign, closeOf, h1, h2, h3, h4]
            · simp [Tok.ok, closeOf, h1, h2]
  · left
    refine ⟨?_, ?_, ?_, ?_, ?_⟩
    · simp [Tok.br, hk]
    · simp [Tok.opn, Tok.isSign, hk]
    · simp [Tok.cls, Tok.isSign, hk]
    · simp [Tok.brk, Tok.isSign, hk]
    · simp [Tok.ok, hk]

theorem closerOf_inj {b c : Bool} : closerOf b = closerOf c ↔ b = c := by
  revert b c
  decide
theorem closerOf_ne (b : Bool) : closerOf b ≠ ByteArray.empty := by
  revert b
  decide

theorem br_open {x : Tok} {b : Bool} (h : x.br = some (true, b)) : x.opn = true ∧ x.cls = false ∧ x.brk = true ∧ x.ok = true ∧ closeOf x.glyph = some (closerOf b) := by
  rcases br_ways x with ⟨h0, _⟩ | ⟨c, h0, h1, h2, h3, h4, h5⟩ | ⟨c, h0, _⟩
  · rw [h0] at h; cases h
  · rw [h0] at h; cases h; exact ⟨h1, h2, h3, h4, h5⟩
  · rw [h0] at h; cases h
theorem br_close {x : Tok} {b : Bool} (h : x.br = some (false, b)) : x.opn = false ∧ x.cls = true ∧ x.brk = true ∧ x.ok = false ∧ x.glyph = closerOf b := by
  rcases br_ways x with ⟨h0, _⟩ | ⟨c, h0, _⟩ | ⟨c, h0, h1, h2, h3, h4, h5⟩
  · rw [h0] at h; cases h
  · rw [h0] at h; cases h
  · rw [h0] at h; cases h; exact ⟨h1, h2, h3, h4, h5⟩
theorem br_no {x : Tok} (h : x.br = none) : x.opn = false ∧ x.cls = false ∧ x.brk = false ∧ x.ok = false := by
  rcases br_ways x with ⟨_, h1, h2, h3, h4⟩ | ⟨c, h0, _⟩ | ⟨c, h0, _⟩
  · exact ⟨h1, h2, h3, h4⟩
  · rw [h0] at h; cases h
  · rw [h0] at h; cases h

theorem pair2_is {x y : Tok} {b c : Bool} (hy : y.br = some (true, c)) (hx : x.br = some (false, b)) : pair2 y x = decide (c = b) := by
  have n5 : gCur ≠ gPar := by decide
  have n6 : gCus ≠ gPas := by decide
  have m5 := n5.symm
  have m6 := n6.symm
  obtain ⟨ky, ty, gy⟩ := y
  obtain ⟨kx, tx, gx⟩ := x
  unfold Tok.br at hx hy
  simp only at hx hy
  by_cases h8 : ky = 8
  · rw [if_pos h8] at hy
    by_cases h9 : kx = 8
    · rw [if_pos h9] at hx
      subst h8 h9
      by_cases y1 : gy = gPar
      · subst y1
        simp only [if_pos] at hy
        cases hy
        by_cases x1 : gx = gPar
        · rw [if_pos x1] at hx; cases hx
        · rw [if_neg x1] at hx
          by_cases x2 : gx = gCur
          · rw [if_pos x2] at hx; cases hx
          · rw [if_neg x2] at hx
            by_cases x3 : gx = gPas
            · subst x3; simp only [if_pos] at hx; cases hx; simp [pair2, Tok.isSign, n5, n6, m5, m6]
            · rw [if_neg x3] at hx
              by_cases x4 : gx = gCus
              · subst x4; simp only [if_pos] at hx; cases hx; simp [pair2, Tok.isSign, n5, n6, m5, m6]
              · rw [if_neg x4] at hx; cases hx
      · rw [if_neg y1] at hy
        by_cases y2 : gy = gCur
        · subst y2
          simp only [if_pos] at hy
          cases hy
          by_cases x1 : gx = gPar
          · rw [if_pos x1] at hx; cases hx
          · rw [if_neg x1] at hx
            by_cases x2 : gx = gCur
            · rw [if_pos x2] at hx; cases hx
            · rw [if_neg x2] at hx
              by_cases x3 : gx = gPas
              · subst x3; simp only [if_pos] at hx; cases hx; simp [pair2, Tok.isSign, n5, n6, m5, m6]
              · rw [if_neg x3] at hx
                by_cases x4 : gx = gCus
                · subst x4; simp only [if_pos] at hx; cases hx; simp [pair2, Tok.isSign, n5, n6, m5, m6]
                · rw [if_neg x4] at hx; cases hx
        · rw [if_neg y2] at hy
          by_cases y3 : gy = gPas
          · rw [if_pos y3] at hy; cases hy
          · rw [if_neg y3] at hy
            by_cases y4 : gy = gCus
            · rw [if_pos y4] at hy; cases hy
            · rw [if_neg y4] at hy; cases hy
    · rw [if_neg h9] at hx; cases hx
  · rw [if_neg h8] at hy; cases hy

/-! ### The beginnings of a list -/
theorem run_snoc {l : List Tok} {k : Nat} {x : Tok} (hx : l[k]? = some x) : Brs.none0.run (brs (l.take (k + 1))) = (Brs.none0.run (brs (l.take k))).bind fun s => s.step x.br := by
  obtain ⟨h, rfl⟩ := List.getElem?_eq_some_iff.1 hx
  rw [List.take_succ_eq_append_getElem h, brs_app, Brs.run_append]
  congr 1
  funext t
  exact Brs.run_one t _
theorem run_fail {l : List Tok} {k : Nat} (h : Brs.none0.run (brs (l.take k)) = none) : Brs.none0.run (brs l) = none := by
  have e : l = l.take k ++ l.drop k := (List.take_append_drop k l).symm
  rw [e, brs_app, Brs.run_append, h]
  rfl
theorem codeOf_fail {l : List Tok} {k : Nat} (h : Brs.none0.run (brs (l.take k)) = none) : codeOf l = 60 := by
  unfold codeOf
  rw [run_fail h]
theorem run_some {l : List Tok} {s : Brs} (h : Brs.none0.run (brs l) = some s) (k : Nat) : ∃ t, Brs.none0.run (brs (l.take k)) = some t := by
  cases ht : Brs.none0.run (brs (l.take k)) with
  | none => rw [run_fail ht] at h; cases h
  | some t => exact ⟨t, rfl⟩

theorem Opend.tok {l : List Tok} {s : Brs} {q : Nat} {b : Bool} {r : List (Nat × Bool)} (h : Opend (brs l) s q b r) : ∃ y, l[q]? = some y ∧ y.br = some (true, b) := by
  obtain ⟨_, _, l1, mid, _, _, _, _, hl, hq, _⟩ := h
  have h1 : (brs l)[q]? = some (some (true, b)) := by
    rw [hl, ← hq]
    simp
  unfold brs at h1
  rw [List.getElem?_map] at h1
  cases hy : l[q]? with
  | none => rw [hy] at h1; cases h1
  | some y =>
    rw [hy] at h1
    simp only [Option.map_some, Option.some.injEq] at h1
    exact ⟨y, rfl, h1⟩

/-- The open bracket on top, at a beginning of the list. -/
theorem top_open {l : List Tok} {k : Nat} {s : Brs} {q : Nat} {b : Bool} {r : List (Nat × Bool)} (h : Brs.none0.run (brs (l.take k)) = some s) (hs : s.stack = (q, b) :: r) : q < k ∧ q < l.length ∧ ∃ y, l[q]? = some y ∧ y.br = some (true, b) := by
  obtain ⟨y, hy, hb⟩ := ((fine_of_run h).stk [] q b r hs).tok
  rw [List.getElem?_take] at hy
  split at hy
  · rename_i hq
    exact ⟨hq, (List.getElem?_eq_some_iff.1 hy).1, y, hy, hb⟩
  · cases hy

theorem run_lens {l : List Tok} {k : Nat} {s : Brs} (h : Brs.none0.run (brs (l.take k)) = some s) (hk : k ≤ l.length) : s.pairs.length = k ∧ s.deeps.length = k ∧ s.stack.length ≤ k ∧ s.stack.length ≤ s.most ∧ s.most ≤ k := by
  have hf := fine_of_run h
  have h1 := hf.len
  have h2 := hf.lenD
  rw [brs_len, List.length_take, Nat.min_eq_left hk] at h1 h2
  have h4 : ∀ (m : List (Option (Bool × Bool))) (a t : Brs), a.run m = some t → a.stack.length ≤ a.most → t.most ≤ a.most + m.length := by
    intro m
    induction m with
    | nil => intro a t h _; simp only [Brs.run, Option.some.injEq] at h; subst h; simp
    | cons x m ih =>
      intro a t h h0
      simp only [Brs.run] at h
      cases hs : a.step x with
      | none => simp [hs] at h
      | some u =>
        simp only [hs, Option.bind_some] at h
        have hu : u.stack.length ≤ u.most ∧ u.most ≤ a.most + 1 := by
          match x, hs with
          | none, hs => simp only [Brs.step, Option.some.injEq] at hs; subst hs; exact ⟨h0, by simp⟩
          | some (true, b), hs => simp only [Brs.step, Option.some.injEq] at hs; subst hs; simp; omega
          | some (false, b), hs =>
            simp only [Brs.step] at hs
            split at hs
            · cases hs
            · split at hs
              · rename_i q c r hr hcb
                simp only [Option.some.injEq] at hs
                subst hs
                rw [hr] at h0
                simp at h0 ⊢
                omega
              · cases hs
        have := ih u t h hu.1
        simp only [List.length_cons]
        omega
  have h5 := h4 _ _ _ h (by simp [Brs.none0])
  rw [brs_len, List.length_take, Nat.min_eq_left hk] at h5
  simp [Brs.none0] at h5
  exact ⟨h1, h2, by have := hf.most; omega, hf.most, h5⟩

/-- What is told: partners, depths. -/
def matchOf (l : List Tok) : List Int := if codeOf l = 0 then (brsOf l).pairs else []
def deepOf (l : List Tok) : List Int := if codeOf l = 0 then (brsOf l).deeps.map (fun (d : Nat) => (d : Int)) else []
theorem matchOf_no {l : List Tok} (h : codeOf l ≠ 0) : matchOf l = [] := if_neg h
theorem deepOf_no {l : List Tok} (h : codeOf l ≠ 0) : deepOf l = [] := if_neg h
theorem matchOf_yes {l : List Tok} (h : codeOf l = 0) : matchOf l = (brsOf l).pairs := if_pos h
theorem deepOf_yes {l : List Tok} (h : codeOf l = 0) : deepOf l = (brsOf l).deeps.map (fun (d : Nat) => (d : Int)) := if_pos h
/-- At the end of a list. -/
theorem code_end {l : List Tok} {s : Brs} (h : Brs.none0.run (brs l) = some s) : codeOf l = (if s.stack = [] then (if 20 < s.most then 61 else 0) else 60) ∧ brsOf l = s := by
  unfold codeOf brsOf
  rw [h]
  exact ⟨rfl, rfl⟩
end Go.Proofs.YtlokkdbgihbnhabDoor
