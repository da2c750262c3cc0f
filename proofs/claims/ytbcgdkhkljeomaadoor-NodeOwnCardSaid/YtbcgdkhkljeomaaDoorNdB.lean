/-
  Whether a node's form is right: by the program.
-/
import Derived.Test.YtbcgdkhkljeomaaDoorProg
import Derived.Test.YtbcgdkhkljeomaaDoorReg
import Derived.WalkKit
import Derived.WalkSpells
import Derived.WalkLawsBesides
import Derived.Lib.Hide
import Derived.Lib.MinMax
import Derived.Deep.QuietTactic
import Derived.BigQuiet
import Derived.OwnWalk
import Derived.Deep.AppendLies
import Derived.KernelRfl
import Derived.Deep.RegionWith
import Derived.Deep.CutBlock
import Derived.Test.YtbcgdkhkljeomaaDoorNdA
import Derived.Test.YtbcgdkhkljeomaaDoorNdH
set_option linter.unusedSimpArgs false
set_option linter.unusedVariables false
namespace Go.Proofs.YtbcgdkhkljeomaaDoor
open Go.RowKit

/-- A node's value. -/
def Nd.value (x : Nd) (B : Option Addr) (c : Nat) : Value := .agg #[.int .i64 x.kind, .string x.text, .slice B x.kids.length c]
theorem zeroForm (w : World) : (zeroValue 71).run Tryd.prog w = .ok (.agg #[.int .i64 0, .int .i64 0, .bool false]) w := Tryd.zeroValue71 w

theorem ite_some {c : Prop} [Decidable c] {α : Type} {a x : α} {y : Option α} (h : (if c then some a else y) = some x) : x = a ∨ y = some x := by
  by_cases hc : c
  · rw [if_pos hc] at h
    exact .inl (Option.some.inj h).symm
  · rw [if_neg hc] at h
    exact .inr h
theorem formAt_some {k : Int} {a m : Nat} {h : Bool} (hf : formAt k = some (a, m, h)) : ¬ (a = 0 ∧ m = 0 ∧ h = false) ∧ m ≤ 1048576 := by
  unfold formAt at hf
  rcases ite_some hf with h | hf
  · (simp only [Prod.mk.injEq] at h; obtain ⟨rfl, rfl, rfl⟩ := h; exact ⟨by decide, by decide⟩)
  rcases ite_some hf with h | hf
  · (simp only [Prod.mk.injEq] at h; obtain ⟨rfl, rfl, rfl⟩ := h; exact ⟨by decide, by decide⟩)
  rcases ite_some hf with h | hf
  · (simp only [Prod.mk.injEq] at h; obtain ⟨rfl, rfl, rfl⟩ := h; exact ⟨by decide, by decide⟩)
  rcases ite_some hf with h | hf
  · (simp only [Prod.mk.injEq] at h; obtain ⟨rfl, rfl, rfl⟩ := h; exact ⟨by decide, by decide⟩)
  rcases ite_some hf with h | hf
  · (simp only [Prod.mk.injEq] at h; obtain ⟨rfl, rfl, rfl⟩ := h; exact ⟨by decide, by decide⟩)
  rcases ite_some hf with h | hf
  · (simp only [Prod.mk.injEq] at h; obtain ⟨rfl, rfl, rfl⟩ := h; exact ⟨by decide, by decide⟩)
  rcases ite_some hf with h | hf
  · (simp only [Prod.mk.injEq] at h; obtain ⟨rfl, rfl, rfl⟩ := h; exact ⟨by decide, by decide⟩)
  rcases ite_some hf with h | hf
  · (simp only [Prod.mk.injEq] at h; obtain ⟨rfl, rfl, rfl⟩ := h; exact ⟨by decide, by decide⟩)
  rcases ite_some hf with h | hf
  · (simp only [Prod.mk.injEq] at h; obtain ⟨rfl, rfl, rfl⟩ := h; exact ⟨by decide, by decide⟩)
  rcases ite_some hf with h | hf
  · (simp only [Prod.mk.injEq] at h; obtain ⟨rfl, rfl, rfl⟩ := h; exact ⟨by decide, by decide⟩)
  rcases ite_some hf with h | hf
  · (simp only [Prod.mk.injEq] at h; obtain ⟨rfl, rfl, rfl⟩ := h; exact ⟨by decide, by decide⟩)
  rcases ite_some hf with h | hf
  · (simp only [Prod.mk.injEq] at h; obtain ⟨rfl, rfl, rfl⟩ := h; exact ⟨by decide, by decide⟩)
  rcases ite_some hf with h | hf
  · (simp only [Prod.mk.injEq] at h; obtain ⟨rfl, rfl, rfl⟩ := h; exact ⟨by decide, by decide⟩)
  rcases ite_some hf with h | hf
  · (simp only [Prod.mk.injEq] at h; obtain ⟨rfl, rfl, rfl⟩ := h; exact ⟨by decide, by decide⟩)
  cases hf
theorem run_eql_form (a m : Nat) (h : Bool) (hne : ¬ (a = 0 ∧ m = 0 ∧ h = false)) (W : World) : (binOp .eql 71 (.agg #[.int .i64 a, .int .i64 m, .bool h]) (.agg #[.int .i64 0, .int .i64 0, .bool false])).run Tryd.prog W = .ok (.bool false) W := by
  simp only [run_eql_struct]
  by_cases h1 : a = 0
  · subst h1
    by_cases h2 : m = 0
    · subst h2
      cases h
      · exact absurd ⟨rfl, rfl, rfl⟩ hne
      · simp [go_sem]
    · simp [go_sem, h2]
  · simp [go_sem, h1]
abbrev zeroF : Obj := .cells #[.int .i64 0, .int .i64 0, .bool false] 71
theorem late_cells {u w' : World} (hbw : Below (u.alloc zeroF).drew.heap.size (u.alloc zeroF).drew w') :
    w'.cell? ⟨u.heap.size, 0, none⟩ = some (.int .i64 0) ∧ w'.cell? ⟨u.heap.size, 1, none⟩ = some (.int .i64 0) ∧ w'.cell? ⟨u.heap.size, 2, none⟩ = some (.bool false) ∧
    w'.frozen? ⟨u.heap.size, 0, none⟩ = false ∧ w'.frozen? ⟨u.heap.size, 1, none⟩ = false ∧ w'.frozen? ⟨u.heap.size, 2, none⟩ = false := by
  have hr9 : w'.heap[u.heap.size]? = some (.cells #[.int .i64 0, .int .i64 0, .bool false] 71 (0, 0)) := (hbw.block u.heap.size (show u.heap.size < (u.alloc zeroF).heap.size by simp)).trans (heap_alloc_new u _)
  exact ⟨by simp [World.cell?, hr9], by simp [World.cell?, hr9], by simp [World.cell?, hr9], frozen_of_row w' _ 0 _ _ hr9, frozen_of_row w' _ 1 _ _ hr9, frozen_of_row w' _ 2 _ _ hr9⟩

theorem late_imp {u w' : World} {G : Prop} (h : Below (u.alloc zeroF).drew.heap.size (u.alloc zeroF).drew w' → w'.cell? ⟨u.heap.size, 0, none⟩ = some (.int .i64 0) → w'.cell? ⟨u.heap.size, 1, none⟩ = some (.int .i64 0) → w'.cell? ⟨u.heap.size, 2, none⟩ = some (.bool false) →
    w'.frozen? ⟨u.heap.size, 0, none⟩ = false → w'.frozen? ⟨u.heap.size, 1, none⟩ = false → w'.frozen? ⟨u.heap.size, 2, none⟩ = false → G) : Below (u.alloc zeroF).drew.heap.size (u.alloc zeroF).drew w' → G := fun hb => by
  obtain ⟨a, b, c, d, e, f⟩ := late_cells hb
  exact h hb a b c d e f

theorem late_final {u w w' : World} {k : Nat} {R : Obj} (a b : Int) (h : Bool) (hu : w.heap.size ≤ u.heap.size) (hrow : u.heap[k]? = some R) (hb0 : Below w.heap.size w u) (hbw : Below (u.heap.size + 1) (u.alloc zeroF).drew w') :
    ∃ b9, Value.pointer (some ⟨u.heap.size, 0, none⟩) = .pointer (some ⟨b9, 0, none⟩) ∧ (((w'.setCell ⟨u.heap.size, 0, none⟩ (.int .i64 a)).setCell ⟨u.heap.size, 1, none⟩ (.int .i64 b)).setCell ⟨u.heap.size, 2, none⟩ (.bool h)).heap[b9]? = some (.cells #[.int .i64 a, .int .i64 b, .bool h] 71 (0, 0)) ∧
      (((w'.setCell ⟨u.heap.size, 0, none⟩ (.int .i64 a)).setCell ⟨u.heap.size, 1, none⟩ (.int .i64 b)).setCell ⟨u.heap.size, 2, none⟩ (.bool h)).heap[k]? = some R ∧
      Below w.heap.size w (((w'.setCell ⟨u.heap.size, 0, none⟩ (.int .i64 a)).setCell ⟨u.heap.size, 1, none⟩ (.int .i64 b)).setCell ⟨u.heap.size, 2, none⟩ (.bool h)) := by
  have hk : k < u.heap.size := (Array.getElem?_eq_some_iff.1 hrow).1
  have h1 : w'.heap[u.heap.size]? = some (.cells #[.int .i64 0, .int .i64 0, .bool false] 71 (0, 0)) := (hbw.block u.heap.size (Nat.lt_succ_self _)).trans (heap_alloc_new u _)
  have h2 : w'.heap[k]? = some R := (hbw.block k (by omega)).trans (((World.grownBy_alloc u zeroF none).block k hk (by simp)).trans hrow)
  have e1 := heap_setCell_same w' _ 0 _ _ (.int .i64 a) h1
  have e2 := heap_setCell_same _ _ 1 _ _ (.int .i64 b) e1
  have e3 := heap_setCell_same _ _ 2 _ _ (.bool h) e2
  have f : ∀ (v : World) (o : Nat) (y : Value), v.heap[k]? = some R → (v.setCell ⟨u.heap.size, o, none⟩ y).heap[k]? = some R := fun v o y hv =>
    (heap_setCell_other v ⟨u.heap.size, o, none⟩ k y (by show k ≠ u.heap.size; omega)).trans hv
  have hb1 : Below w.heap.size w w' := ((hb0.alloc hu zeroF).drew).trans (hbw.mono (by omega))
  exact ⟨_, rfl, e3, f _ _ _ (f _ _ _ (f _ _ _ h2)), ((hb1.setCell (p := ⟨u.heap.size, 0, none⟩) hu _).setCell (p := ⟨u.heap.size, 1, none⟩) hu _).setCell (p := ⟨u.heap.size, 2, none⟩) hu _⟩
theorem new_final {u v w w' : World} {k : Nat} {R : Obj} (a b : Int) (h : Bool) (hu : w.heap.size ≤ u.heap.size) (hrow : u.heap[k]? = some R) (hb0 : Below w.heap.size w u) (hv : v.heap = u.heap ∧ v.os = u.os ∧ v.tape = u.tape ∧ v.output = u.output) (hbw : Below u.heap.size v w') :
    ∃ b9, Value.pointer (some ⟨w'.heap.size, 0, none⟩) = .pointer (some ⟨b9, 0, none⟩) ∧ (w'.alloc (.cells #[.int .i64 a, .int .i64 b, .bool h] 71)).heap[b9]? = some (.cells #[.int .i64 a, .int .i64 b, .bool h] 71 (0, 0)) ∧
      (w'.alloc (.cells #[.int .i64 a, .int .i64 b, .bool h] 71)).heap[k]? = some R ∧ Below w.heap.size w (w'.alloc (.cells #[.int .i64 a, .int .i64 b, .bool h] 71)) := by
  have hk : k < u.heap.size := (Array.getElem?_eq_some_iff.1 hrow).1
  have h2 : w'.heap[k]? = some R := by rw [hbw.block k hk, hv.1]; exact hrow
  have hsz : u.heap.size ≤ w'.heap.size := by have := hbw.size; rwa [hv.1] at this
  have hb1 : Below w.heap.size w w' := hb0.trans (Below.mono ⟨by rw [hbw.os, hv.2.1], by rw [hbw.tape, hv.2.2.1], by rw [hbw.output, hv.2.2.2], hsz, fun j hj => by rw [hbw.block j hj, hv.1]⟩ hu)
  exact ⟨_, rfl, heap_alloc_new w' _, ((World.grownBy_alloc w' _ none).block k (by omega) (by simp)).trans h2, hb1.alloc (by omega) _⟩

/-- The form of a kind; nothing, if it has none. -/
def formD (k : Int) : Nat × Nat × Bool := (formAt k).getD (0, 0, false)
theorem form_get {W : World} {b : Nat} (h : MapIsI W Tryd.prog 3 b 14 (fun k => (formAt k).map formV)) (k : Int) (hk : (Lit.int .i64 k).wf = true) :
    (Instr.lookup 72 (.map (some b)) (.int .i64 k) false).run Tryd.prog W = .ok (.agg #[.int .i64 (formD k).1, .int .i64 (formD k).2.1, .bool (formD k).2.2]) W := by
  have e := h.get false Tryd.underlying3 Tryd.underlying72 (zeroForm W) k hk
  rw [e]
  unfold formD
  cases formAt k <;> rfl

set_option maxRecDepth 100000 in
set_option maxHeartbeats 4000000 in
theorem isForm_any (x : Nd) (B : Option Addr) (c : Nat) (w : World) (hk : (Lit.int .i64 x.kind).wf = true) (hl : x.kids.length ≤ 1000000) :
    Calls Tryd.prog 37 #[x.value B c] w fun e w' => e = .returned (.bool (formOk x)) ∧ Below w.heap.size w w' := by
  have Hk := Lib.hid hk
  clear hk
  unfold Nd.value
  go_enter Tryd.func37, Tryd.ntmps37
  go_upto_region 1 with fail
  have hb0 : Below w.heap.size w (w.alloc (.cells #[.int .i64 x.kind, .string x.text, .slice B x.kids.length c] 37)) := (Below.refl _ _).alloc (Nat.le_refl _) _
  have hrow : (w.alloc (.cells #[.int .i64 x.kind, .string x.text, .slice B x.kids.length c] 37)).heap[w.heap.size]? = some (.cells #[.int .i64 x.kind, .string x.text, .slice B x.kids.length c] 37 (0, 0)) := heap_alloc_new w _
  have hsz : w.heap.size < (w.alloc (.cells #[.int .i64 x.kind, .string x.text, .slice B x.kids.length c] 37)).heap.size := by simp
  generalize w.alloc (.cells #[.int .i64 x.kind, .string x.text, .slice B x.kids.length c] 37) = u at *
  have Hrow := Lib.hid hrow
  have hwu := hb0.size
  have Hb0 := Lib.hid hb0
  have c0 : u.cell? ⟨w.heap.size, 0, none⟩ = some (.int .i64 x.kind) := by simp [World.cell?, hrow]
  have c2 : (u.alloc (.cells #[.int .i64 0, .int .i64 0, .bool false] 71)).cell? ⟨w.heap.size, 0, none⟩ = some (.int .i64 x.kind) := (World.cell?_alloc_lt _ _ _ hsz).trans c0
  clear hrow hb0
  go_cut [3] from 5 to 8 (fun p wx => ∃ b, p = .pointer (some ⟨b, 0, none⟩) ∧ wx.heap[b]? = some (.cells #[.int .i64 (formD x.kind).1, .int .i64 (formD x.kind).2.1, .bool (formD x.kind).2.2] 71 (0, 0)) ∧
    wx.heap[w.heap.size]? = some (.cells #[.int .i64 x.kind, .string x.text, .slice B x.kids.length c] 37 (0, 0)) ∧ Below w.heap.size w wx)
  case first =>
    go_region_with (go_at_call 51; refine (forms_any _).mono ?_; rintro e w' ⟨rfl, hm, hbw⟩; have hl1 := form_get hm x.kind Hk.out; have hl2 := form_get (hm.kept (World.grownBy_alloc w' (.cells #[.int .i64 0, .int .i64 0, .bool false] 71) none) (by simp)) x.kind Hk.out; (simp only [show ∀ v : World, v.drew.heap = v.heap from fun _ => rfl, World.size_alloc] at hl1 hl2); have c1 := (hbw.cell (p := ⟨w.heap.size, 0, none⟩) (by first | exact hsz | (simp; omega))).trans (by first | exact c0 | exact (World.cell?_alloc_lt _ _ _ hsz).trans c0); have c3 : (w'.alloc (.cells #[.int .i64 0, .int .i64 0, .bool false] 71)).cell? ⟨w.heap.size, 0, none⟩ = some (.int .i64 x.kind) := (World.cell?_alloc_lt _ _ _ (cell_lt c1)).trans c1; (try (revert hbw; refine late_imp ?_; intro hbw x0 x1 x2 z0 z1 z2)))
    all_goals (try simp only [World.size_alloc, show ∀ v : World, v.drew.heap = v.heap from fun _ => rfl] at *)
    all_goals go_wp2_with fail
    all_goals go_meet
    all_goals first | exact late_final _ _ _ hwu Hrow.out Hb0.out hbw | exact new_final (v := u.drew) _ _ _ hwu Hrow.out Hb0.out ⟨rfl, rfl, rfl, rfl⟩ hbw
  case rest =>
    obtain ⟨b, rfl, hr1, hr2, hb2⟩ := hcut
    have l1 : b < wc.heap.size := (Array.getElem?_eq_some_iff.1 hr1).1
    have l2 : w.heap.size < wc.heap.size := (Array.getElem?_eq_some_iff.1 hr2).1
    have d0 : wc.cell? ⟨w.heap.size, 0, none⟩ = some (.int .i64 x.kind) := by simp [World.cell?, hr2]
    have d1 : wc.cell? ⟨w.heap.size, 1, none⟩ = some (.string x.text) := by simp [World.cell?, hr2]
    have d2 : wc.cell? ⟨w.heap.size, 2, none⟩ = some (.slice B x.kids.length c) := by simp [World.cell?, hr2]
    have hwz := hb2.size
    clear c0 c2 hsz Hrow Hb0 hr2
    cases hf : formAt x.kind with
    | none =>
      have e : formD x.kind = (0, 0, false) := by simp [formD, hf]
      rw [e] at hr1
      have x0 : wc.cell? ⟨b, 0, none⟩ = some (.int .i64 0) := by simp [World.cell?, hr1]
      have x1 : wc.cell? ⟨b, 1, none⟩ = some (.int .i64 0) := by simp [World.cell?, hr1]
      have x2 : wc.cell? ⟨b, 2, none⟩ = some (.bool false) := by simp [World.cell?, hr1]
      have HO : Hid (formOk x = false) := Lib.hid (by simp [formOk, hf])
      clear hf e hr1
      go_wp2_with fail
      go_ret
      exact ⟨by rw [HO.out]; rfl, hb2.alloc hwz _⟩
    | some f =>
      obtain ⟨a, m, h⟩ := f
      have e : formD x.kind = (a, m, h) := by simp [formD, hf]
      rw [e] at hr1
      obtain ⟨y1, y2⟩ := formAt_some hf
      have x0 : wc.cell? ⟨b, 0, none⟩ = some (.int .i64 a) := by simp [World.cell?, hr1]
      have x1 : wc.cell? ⟨b, 1, none⟩ = some (.int .i64 m) := by simp [World.cell?, hr1]
      have x2 : wc.cell? ⟨b, 2, none⟩ = some (.bool h) := by simp [World.cell?, hr1]
      have HO : Hid (formOk x = (decide (a ≤ x.kids.length) && decide (x.kids.length ≤ m) && (decide (0 < x.text.size) == h))) := Lib.hid (by simp [formOk, hf])
      have heq : ∀ W, (binOp .eql 71 (.agg #[.int .i64 a, .int .i64 m, .bool h]) (.agg #[.int .i64 0, .int .i64 0, .bool false])).run Tryd.prog W = .ok (.bool false) W := fun W => run_eql_form a m h y1 W
      clear hf e hr1 y1
      generalize x.kids.length = n at *
      by_cases h1 : a ≤ n
      · have H1 := Lib.hid (decide_eq_true h1)
        by_cases h2 : n ≤ m
        · by_cases h3 : 0 < x.text.size
          · have q := empty_not h3
            have D3 : decide (0 < x.text.size) = true := decide_eq_true h3
            cases h
            · go_wp2_with fail
              go_ret
              exact ⟨by rw [HO.out, H1.out, show decide (n ≤ m) = true by simp; omega, D3]; rfl, hb2.alloc hwz _⟩
            · go_wp2_with fail
              go_ret
              exact ⟨by rw [HO.out, H1.out, show decide (n ≤ m) = true by simp; omega, D3]; rfl, hb2.alloc hwz _⟩
          · have q := empty_is (show x.text.size = 0 by omega)
            have D3 : decide (0 < x.text.size) = false := decide_eq_false h3
            cases h
            · go_wp2_with fail
              go_ret
              exact ⟨by rw [HO.out, H1.out, show decide (n ≤ m) = true by simp; omega, D3]; rfl, hb2.alloc hwz _⟩
            · go_wp2_with fail
              go_ret
              exact ⟨by rw [HO.out, H1.out, show decide (n ≤ m) = true by simp; omega, D3]; rfl, hb2.alloc hwz _⟩
        · have h2' : decide ((n : Int) ≤ (m : Int)) = false := by simp; omega
          have h2'' : decide (n ≤ m) = false := by simp; omega
          go_wp2_with fail
          go_ret
          exact ⟨by rw [HO.out, H1.out, h2'']; rfl, hb2.alloc hwz _⟩
      · have h1' : decide ((a : Int) ≤ (n : Int)) = false := by simp; omega
        have h1'' : decide (a ≤ n) = false := by simp; omega
        go_wp2_with fail
        go_ret
        exact ⟨by rw [HO.out, h1'']; rfl, hb2.alloc hwz _⟩
end Go.Proofs.YtbcgdkhkljeomaaDoor
