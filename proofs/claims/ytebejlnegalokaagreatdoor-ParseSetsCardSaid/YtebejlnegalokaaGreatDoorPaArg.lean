/-
  The arguments of this seat: slices of tokens, of names.
-/
import Derived.Test.YtebejlnegalokaaGreatDoorPw9
set_option linter.unusedSimpArgs false
set_option linter.unusedVariables false
namespace Go.Proofs.YtebejlnegalokaaGreatDoor
open Go.RowKit Go.WideShapes Go.ChangeShapes Go.Deep
open Gz (Tok HoldsT)

theorem e_toks : Tryz.prog.underlying 34 = some (.slice 37) := by kernel_rfl
theorem e_bds : Tryz.prog.underlying 22 = some (.slice 30) := by kernel_rfl
theorem e_ctok : Tryz.prog.cellsOf 37 = 3 := by kernel_rfl
theorem e_cbd : Tryz.prog.cellsOf 30 = 2 := by kernel_rfl
theorem e_bool : Tryz.prog.underlying 4 = some .bool := by kernel_rfl
theorem e_cbool : Tryz.prog.cellsOf 4 = 1 := by kernel_rfl
theorem e_tok : ∃ fs : Array Field, Tryz.prog.underlying 37 = some (.struct fs) ∧ fs.map (fun f => (f.type, f.offset)) = #[(3, 0), (9, 1), (9, 2)] :=
  ⟨_, Tryz.underlying37, by simp⟩
theorem e_bd : ∃ fs : Array Field, Tryz.prog.underlying 30 = some (.struct fs) ∧ fs.map (fun f => (f.type, f.offset)) = #[(9, 0), (4, 1)] :=
  ⟨_, Tryz.underlying30, by simp⟩

section
variable {H : Type} {enc : TypeId × Value → H} {w : World} {base : Nat} {sp : Nat → Bool} {held : Bool}

set_option maxRecDepth 100000 in
/-- One token, read from its three cells. -/
theorem open_tok {fuel : Nat} {cs : List Value} {x : DataW H × List MemPlace} (h : DataW.trod enc Tryz.prog w base sp held fuel 37 cs = some x) : ∃ e : Tok, cs = [.int .i64 e.kind, .string e.text, .string e.glyph] ∧ e.text.size ≤ maxLen ∧ e.glyph.size ≤ maxLen := by
  obtain ⟨fs, hs, hm⟩ := e_tok
  obtain ⟨xs, n, _, _, hlen, _, hf⟩ := DataW.trod_struct hs h
  obtain ⟨f0, g0, t0, o0⟩ := Nz.field_of hm 0 (3, 0) rfl
  obtain ⟨f1, g1, t1, o1⟩ := Nz.field_of hm 1 (9, 1) rfl
  obtain ⟨f2, g2, t2, o2⟩ := Nz.field_of hm 2 (9, 2) rfl
  simp only at t0 o0 t1 o1 t2 o2
  have h0 := hf 0 f0 g0
  have h1 := hf 1 f1 g1
  have h2 := hf 2 f2 g2
  have hx : xs.length = 3 := by
    have : fs.size = 3 := by have := congrArg Array.size hm; simpa using this
    omega
  rw [e_ctok] at hlen
  match xs, hx, cs, hlen with
  | [y0, y1, y2], _, [v0, v1, v2], _ =>
    rw [t0, o0, Nz.e_cint] at h0
    rw [t1, o1, Nz.e_cstring] at h1
    rw [t2, o2, Nz.e_cstring] at h2
    obtain ⟨n0, c0, _, _⟩ := DataW.trod_int Nz.e_int (h0.trans rfl : _ = some y0)
    obtain ⟨s1, c1, _, hy⟩ := DataW.trod_string Nz.e_string (h1.trans rfl : _ = some y1)
    obtain ⟨s2, c2, _, hz⟩ := DataW.trod_string Nz.e_string (h2.trans rfl : _ = some y2)
    obtain rfl : v0 = .int .i64 n0 := (List.cons.inj c0).1
    obtain rfl : v1 = .string s1 := (List.cons.inj c1).1
    obtain rfl : v2 = .string s2 := (List.cons.inj c2).1
    exact ⟨⟨n0, s1, s2⟩, rfl, hy, hz⟩
set_option maxRecDepth 100000 in
theorem open_bdE {fuel : Nat} {cs : List Value} {x : DataW H × List MemPlace} (h : DataW.trod enc Tryz.prog w base sp held fuel 30 cs = some x) : ∃ e : Bd, cs = [.string e.name, .bool e.fn] ∧ e.name.size ≤ maxLen := by
  obtain ⟨fs, hs, hm⟩ := e_bd
  obtain ⟨xs, n, _, _, hlen, _, hf⟩ := DataW.trod_struct hs h
  obtain ⟨f0, g0, t0, o0⟩ := Nz.field_of hm 0 (9, 0) rfl
  obtain ⟨f1, g1, t1, o1⟩ := Nz.field_of hm 1 (4, 1) rfl
  simp only at t0 o0 t1 o1
  have h0 := hf 0 f0 g0
  have h1 := hf 1 f1 g1
  have hx : xs.length = 2 := by
    have : fs.size = 2 := by have := congrArg Array.size hm; simpa using this
    omega
  rw [e_cbd] at hlen
  match xs, hx, cs, hlen with
  | [y0, y1], _, [v0, v1], _ =>
    rw [t0, o0, Nz.e_cstring] at h0
    rw [t1, o1, e_cbool] at h1
    obtain ⟨s0, c0, _, hy⟩ := DataW.trod_string Nz.e_string (h0.trans rfl : _ = some y0)
    obtain ⟨b1, c1, _⟩ := DataW.trod_bool e_bool (h1.trans rfl : _ = some y1)
    obtain rfl : v0 = .string s0 := (List.cons.inj c0).1
    obtain rfl : v1 = .bool b1 := (List.cons.inj c1).1
    exact ⟨⟨s0, b1⟩, rfl, hy⟩
theorem open_toks {fuel : Nat} {cs : List Value} {x : DataW H × List MemPlace} (h : DataW.trod enc Tryz.prog w base sp held fuel 34 cs = some x) :
    ∃ (A : Option Addr) (l : List Tok) (c : Nat), cs = [.slice A l.length c] ∧ l.length ≤ c ∧ c ≤ maxLen ∧ (∀ k ∈ l, k.text.size ≤ maxLen ∧ k.glyph.size ≤ maxLen) ∧ HoldsT w A l := by
  obtain ⟨A, n, c, rfl, h1, h2, h3⟩ := Nz.open_row e_toks e_ctok (by omega) h
  rcases Nat.eq_zero_or_pos n with rfl | hn
  · exact ⟨A, [], c, rfl, h1, h2, fun k hk => by simp at hk, fun k x hx => by simp at hx⟩
  · obtain ⟨b, off, rfl, hall⟩ := h3 hn
    obtain ⟨l, hl, hp⟩ := Nz.choose_list n (fun i (y : Tok) => (w.cell? ⟨b, off + i * 3, none⟩ = some (.int .i64 y.kind) ∧ w.cell? ⟨b, off + i * 3 + 1, none⟩ = some (.string y.text) ∧ w.cell? ⟨b, off + i * 3 + 2, none⟩ = some (.string y.glyph)) ∧ y.text.size ≤ maxLen ∧ y.glyph.size ≤ maxLen) (fun i hi => by
      obtain ⟨f', cs', y, q1, q2, q3⟩ := hall i hi
      obtain ⟨k, rfl, r1, r2⟩ := open_tok q3
      have s0 := q2 0 (by omega)
      have s1 := q2 1 (by omega)
      have s2 := q2 2 (by omega)
      exact ⟨k, ⟨s0, s1, s2⟩, r1, r2⟩)
    refine ⟨_, l, c, by rw [hl], by omega, h2, fun k hk => ?_, fun i k hk => ⟨b, off, rfl, (hp i k hk).1⟩⟩
    obtain ⟨i, hi⟩ := List.getElem?_of_mem hk
    exact (hp i k hi).2
theorem open_bds {fuel : Nat} {cs : List Value} {x : DataW H × List MemPlace} (h : DataW.trod enc Tryz.prog w base sp held fuel 22 cs = some x) :
    ∃ (A : Option Addr) (l : List Bd) (c : Nat), cs = [.slice A l.length c] ∧ l.length ≤ c ∧ c ≤ maxLen ∧ (∀ k ∈ l, k.name.size ≤ maxLen) ∧ HoldsE w A l := by
  obtain ⟨A, n, c, rfl, h1, h2, h3⟩ := Nz.open_row e_bds e_cbd (by omega) h
  rcases Nat.eq_zero_or_pos n with rfl | hn
  · exact ⟨A, [], c, rfl, h1, h2, fun k hk => by simp at hk, fun k x hx => by simp at hx⟩
  · obtain ⟨b, off, rfl, hall⟩ := h3 hn
    obtain ⟨l, hl, hp⟩ := Nz.choose_list n (fun i (y : Bd) => (w.cell? ⟨b, off + i * 2, none⟩ = some (.string y.name) ∧ w.cell? ⟨b, off + i * 2 + 1, none⟩ = some (.bool y.fn)) ∧ y.name.size ≤ maxLen) (fun i hi => by
      obtain ⟨f', cs', y, q1, q2, q3⟩ := hall i hi
      obtain ⟨k, rfl, r1⟩ := open_bdE q3
      have s0 := q2 0 (by omega)
      have s1 := q2 1 (by omega)
      exact ⟨k, ⟨s0, s1⟩, r1⟩)
    refine ⟨_, l, c, by rw [hl], by omega, h2, fun k hk => ?_, fun i k hk => ⟨b, off, rfl, (hp i k hk).1⟩⟩
    obtain ⟨i, hi⟩ := List.getElem?_of_mem hk
    exact (hp i k hi).2
set_option maxRecDepth 100000 in
theorem open_toksV {r : Reach} {b0 : Nat} {v : Value} {d : DataW H} {ps : List MemPlace} (hval : Value.okWide Tryz.prog w r b0 34 v) (h : DataW.Trod enc Tryz.prog w base sp held 34 v d ps) :
    ∃ (A : Option Addr) (l : List Tok) (c : Nat), v = .slice A l.length c ∧ l.length ≤ c ∧ c ≤ maxLen ∧ (∀ k ∈ l, k.text.size ≤ maxLen ∧ k.glyph.size ≤ maxLen) ∧ HoldsT w A l := by
  obtain ⟨a0, n0, c0, e⟩ := okWide_slice e_toks hval
  obtain ⟨fuel, hf⟩ := Nz.trod_cells e h
  obtain ⟨A, l, c, hc, h1⟩ := open_toks hf
  exact ⟨A, l, c, (List.cons.inj hc).1, h1⟩
set_option maxRecDepth 100000 in
theorem open_bdsV {r : Reach} {b0 : Nat} {v : Value} {d : DataW H} {ps : List MemPlace} (hval : Value.okWide Tryz.prog w r b0 22 v) (h : DataW.Trod enc Tryz.prog w base sp held 22 v d ps) :
    ∃ (A : Option Addr) (l : List Bd) (c : Nat), v = .slice A l.length c ∧ l.length ≤ c ∧ c ≤ maxLen ∧ (∀ k ∈ l, k.name.size ≤ maxLen) ∧ HoldsE w A l := by
  obtain ⟨a0, n0, c0, e⟩ := okWide_slice e_bds hval
  obtain ⟨fuel, hf⟩ := Nz.trod_cells e h
  obtain ⟨A, l, c, hc, h1⟩ := open_bds hf
  exact ⟨A, l, c, (List.cons.inj hc).1, h1⟩
end
end Go.Proofs.YtebejlnegalokaaGreatDoor
