/-
  The arguments of this seat: slices of numbers, of nodes, of trees.
-/
import Derived.Test.YtbcgdkhkljeomaaDoorChecked
import Derived.Test.YtbcgdkhkljeomaaDoorNdSo
import Derived.ChangeMaps5
import Derived.Deep.Slices
import Derived.WideShapes
set_option linter.unusedSimpArgs false
set_option linter.unusedVariables false
namespace Go.Proofs.YtbcgdkhkljeomaaDoor
open Go.RowKit Go.WideShapes Go.ChangeShapes Go.Deep

theorem e_ints : Tryd.prog.underlying 35 = some (.slice 3) := by kernel_rfl
theorem e_nodes : Tryd.prog.underlying 23 = some (.slice 37) := by kernel_rfl
theorem e_trees : Tryd.prog.underlying 22 = some (.slice 23) := by kernel_rfl
theorem e_cnode : Tryd.prog.cellsOf 37 = 3 := by kernel_rfl
theorem e_cnodes : Tryd.prog.cellsOf 23 = 1 := by kernel_rfl
theorem e_cints : Tryd.prog.cellsOf 35 = 1 := by kernel_rfl
theorem e_int : Tryd.prog.underlying 3 = some (.int .i64) := by kernel_rfl
theorem e_string : Tryd.prog.underlying 9 = some .string := by kernel_rfl
theorem e_cint : Tryd.prog.cellsOf 3 = 1 := by kernel_rfl
theorem e_cstring : Tryd.prog.cellsOf 9 = 1 := by kernel_rfl
theorem e_struct : ∃ fs : Array Field, Tryd.prog.underlying 37 = some (.struct fs) ∧ fs.map (fun f => (f.type, f.offset)) = #[(3, 0), (9, 1), (35, 2)] :=
  ⟨_, Tryd.underlying37, by simp⟩

theorem field_of {fs : Array Field} {l : Array (TypeId × Nat)} (h : fs.map (fun f => (f.type, f.offset)) = l) (j : Nat) (x : TypeId × Nat) (hx : l[j]? = some x) : ∃ f : Field, fs[j]? = some f ∧ f.type = x.1 ∧ f.offset = x.2 := by
  subst h
  rw [Array.getElem?_map] at hx
  cases hf : fs[j]? with
  | none => rw [hf] at hx; cases hx
  | some f =>
    rw [hf] at hx
    cases Option.some.inj hx
    exact ⟨f, rfl, rfl, rfl⟩
theorem cell_spot {w : World} {a : Addr} {v : Value} (h : w.cell? a = some v) : a.spot = none := by
  cases hsp : a.spot with
  | none => rfl
  | some z =>
    exfalso
    simp [World.cell?, hsp] at h
    split at h <;> simp at h
theorem add_off (b o j : Nat) : (⟨b, o, none⟩ : Addr).add j = ⟨b, o + j, none⟩ := by
  unfold Addr.add
  split
  · rename_i h; subst h; rfl
  · rfl
theorem choose_list {α : Type} (n : Nat) (p : Nat → α → Prop) (h : ∀ i, i < n → ∃ x, p i x) : ∃ l : List α, l.length = n ∧ ∀ (k : Nat) (x : α), l[k]? = some x → p k x := by
  induction n with
  | zero => exact ⟨[], rfl, fun k x hk => by simp at hk⟩
  | succ n ih =>
    obtain ⟨l, hl, hp⟩ := ih fun i hi => h i (by omega)
    obtain ⟨x, hx⟩ := h n (by omega)
    refine ⟨l ++ [x], by simp [hl], fun k y hk => ?_⟩
    rcases Nat.lt_or_ge k l.length with h1 | h1
    · rw [List.getElem?_append_left h1] at hk
      exact hp k y hk
    · rw [List.getElem?_append_right h1] at hk
      have : k - l.length = 0 := by
        have := (List.getElem?_eq_some_iff.1 hk).1
        simp at this
        omega
      rw [this] at hk
      simp at hk
      subst hk
      have : k = n := by omega
      subst this
      exact hx

section
variable {H : Type} {enc : TypeId × Value → H} {w : World} {base : Nat} {sp : Nat → Bool} {held : Bool}

/-- A slice's elements, each from its cells. -/
theorem open_row {t e : TypeId} {fuel s : Nat} {cs : List Value} {x : DataW H × List MemPlace} (ht : Tryd.prog.underlying t = some (.slice e)) (hs : Tryd.prog.cellsOf e = s) (h0 : 0 < s) (h : DataW.trod enc Tryd.prog w base sp held fuel t cs = some x) :
    ∃ (A : Option Addr) (n c : Nat), cs = [.slice A n c] ∧ n ≤ c ∧ c ≤ maxLen ∧ (0 < n → ∃ b off, A = some ⟨b, off, none⟩ ∧ ∀ i, i < n → ∃ fuel' cs' y, cs'.length = s ∧ (∀ j, j < s → w.cell? ⟨b, off + i * s + j, none⟩ = cs'[j]?) ∧ DataW.trod enc Tryd.prog w base sp held fuel' e cs' = some y) := by
  rcases open_slice ht h with ⟨hc, _⟩ | ⟨a, len, cap, m, n, D, Pl, hc, _, hl, hm, hmm, _, hall⟩
  · exact ⟨none, 0, 0, hc, Nat.le_refl _, by unfold maxLen; omega, fun h => by omega⟩
  · refine ⟨some a, len, cap, hc, hl, hm, fun hn => ?_⟩
    have hlm : len ≤ m := by rw [hmm]; split <;> omega
    rw [hs] at hall
    have hspot : a.spot = none := by
      obtain ⟨cs', h1, _⟩ := hall 0 (by omega)
      obtain ⟨_, hlen, h2⟩ := World.cells?_some h1
      have h3 := h2 0 h0
      rw [List.getElem?_eq_getElem (by omega), Nat.zero_mul] at h3
      exact cell_spot h3
    obtain ⟨b, off, spot⟩ := a
    simp only at hspot
    subst hspot
    refine ⟨b, off, rfl, fun i hi => ?_⟩
    obtain ⟨cs', h1, h2⟩ := hall i (by omega)
    obtain ⟨_, hlen, h3⟩ := World.cells?_some h1
    refine ⟨n, cs', _, hlen, fun j hj => ?_, h2⟩
    rw [← h3 j hj, add_off, add_off]

/-- Numbers. -/
theorem open_ints {fuel : Nat} {cs : List Value} {x : DataW H × List MemPlace} (h : DataW.trod enc Tryd.prog w base sp held fuel 35 cs = some x) :
    ∃ (A : Option Addr) (l : List Int) (c : Nat), cs = [.slice A l.length c] ∧ l.length ≤ c ∧ c ≤ maxLen ∧ (∀ k ∈ l, (Lit.int .i64 k).wf = true) ∧ HoldsI w A l := by
  obtain ⟨A, n, c, rfl, h1, h2, h3⟩ := open_row e_ints e_cint (by omega) h
  rcases Nat.eq_zero_or_pos n with rfl | hn
  · exact ⟨A, [], c, rfl, h1, h2, fun k hk => by simp at hk, HoldsI.nil _ _⟩
  · obtain ⟨b, off, rfl, hall⟩ := h3 hn
    obtain ⟨l, hl, hp⟩ := choose_list n (fun i (k : Int) => w.cell? ⟨b, off + i, none⟩ = some (.int .i64 k) ∧ (Lit.int .i64 k).wf = true) (fun i hi => by
      obtain ⟨f', cs', y, q1, q2, q3⟩ := hall i hi
      obtain ⟨k, rfl, _, hk⟩ := DataW.trod_int e_int q3
      have := q2 0 (by omega)
      exact ⟨k, by simpa using this, hk⟩)
    refine ⟨_, l, c, by rw [hl], by omega, h2, fun k hk => ?_, fun i k hk => ⟨b, off, rfl, (hp i k hk).1⟩⟩
    obtain ⟨i, hi⟩ := List.getElem?_of_mem hk
    exact (hp i k hi).2
/-- A node that a given one may be. -/
def MayNd (x : Nd) : Prop := (Lit.int .i64 x.kind).wf = true ∧ x.text.size ≤ maxLen ∧ x.kids.length ≤ maxLen ∧ ∀ k ∈ x.kids, (Lit.int .i64 k).wf = true
set_option maxRecDepth 100000 in
/-- One node. -/
theorem open_node {fuel : Nat} {cs : List Value} {x : DataW H × List MemPlace} (h : DataW.trod enc Tryd.prog w base sp held fuel 37 cs = some x) :
    ∃ (y : Nd) (B : Option Addr) (c : Nat), cs = [.int .i64 y.kind, .string y.text, .slice B y.kids.length c] ∧ HoldsI w B y.kids ∧ y.kids.length ≤ c ∧ MayNd y := by
  obtain ⟨fs, hs, hm⟩ := e_struct
  obtain ⟨xs, n, _, _, hlen, _, hf⟩ := DataW.trod_struct hs h
  obtain ⟨f0, g0, t0, o0⟩ := field_of hm 0 (3, 0) rfl
  obtain ⟨f1, g1, t1, o1⟩ := field_of hm 1 (9, 1) rfl
  obtain ⟨f2, g2, t2, o2⟩ := field_of hm 2 (35, 2) rfl
  simp only at t0 o0 t1 o1 t2 o2
  have h0 := hf 0 f0 g0
  have h1 := hf 1 f1 g1
  have h2 := hf 2 f2 g2
  have hx : xs.length = 3 := by
    have : fs.size = 3 := by have := congrArg Array.size hm; simpa using this
    omega
  rw [e_cnode] at hlen
  match xs, hx, cs, hlen with
  | [y0, y1, y2], _, [v0, v1, v2], _ =>
    rw [t0, o0, e_cint] at h0
    rw [t1, o1, e_cstring] at h1
    rw [t2, o2, e_cints] at h2
    obtain ⟨n0, c0, _, hn0⟩ := DataW.trod_int e_int (h0.trans rfl : _ = some y0)
    obtain ⟨s1, c1, _, hy⟩ := DataW.trod_string e_string (h1.trans rfl : _ = some y1)
    obtain ⟨B, l, c, c2, q1, q2, q3, q4⟩ := open_ints (h2.trans rfl : _ = some y2)
    obtain rfl : v0 = .int .i64 n0 := (List.cons.inj c0).1
    obtain rfl : v1 = .string s1 := (List.cons.inj c1).1
    obtain rfl : v2 = .slice B l.length c := (List.cons.inj c2).1
    exact ⟨⟨n0, s1, l⟩, B, c, rfl, q4, q1, hn0, hy, Nat.le_trans q1 q2, q3⟩
/-- Nodes. -/
theorem open_nodes {fuel : Nat} {cs : List Value} {x : DataW H × List MemPlace} (h : DataW.trod enc Tryd.prog w base sp held fuel 23 cs = some x) :
    ∃ (A : Option Addr) (l : List Nd) (c : Nat), cs = [.slice A l.length c] ∧ l.length ≤ c ∧ c ≤ maxLen ∧ (∀ k ∈ l, MayNd k) ∧ HoldsN w A l := by
  obtain ⟨A, n, c, rfl, h1, h2, h3⟩ := open_row e_nodes e_cnode (by omega) h
  rcases Nat.eq_zero_or_pos n with rfl | hn
  · exact ⟨A, [], c, rfl, h1, h2, fun k hk => by simp at hk, HoldsN.nil _ _⟩
  · obtain ⟨b, off, rfl, hall⟩ := h3 hn
    obtain ⟨l, hl, hp⟩ := choose_list n (fun i (y : Nd) => NodeLies w b (off + i * 3) y ∧ MayNd y) (fun i hi => by
      obtain ⟨f', cs', y, q1, q2, q3⟩ := hall i hi
      obtain ⟨k, B, c', rfl, r1, r2, r3⟩ := open_node q3
      have s0 := q2 0 (by omega)
      have s1 := q2 1 (by omega)
      have s2 := q2 2 (by omega)
      exact ⟨k, ⟨s0, s1, B, c', s2, r1, r2⟩, r3⟩)
    refine ⟨_, l, c, by rw [hl], by omega, h2, fun k hk => ?_, fun i k hk => ⟨b, off, rfl, (hp i k hk).1⟩⟩
    obtain ⟨i, hi⟩ := List.getElem?_of_mem hk
    exact (hp i k hi).2
/-- Trees. -/
theorem open_trees {fuel : Nat} {cs : List Value} {x : DataW H × List MemPlace} (h : DataW.trod enc Tryd.prog w base sp held fuel 22 cs = some x) :
    ∃ (A : Option Addr) (l : List (List Nd)) (c : Nat), cs = [.slice A l.length c] ∧ l.length ≤ c ∧ c ≤ maxLen ∧ (∀ t ∈ l, t.length ≤ maxLen ∧ ∀ k ∈ t, MayNd k) ∧ HoldsTs w A l := by
  obtain ⟨A, n, c, rfl, h1, h2, h3⟩ := open_row e_trees e_cnodes (by omega) h
  rcases Nat.eq_zero_or_pos n with rfl | hn
  · exact ⟨A, [], c, rfl, h1, h2, fun k hk => by simp at hk, HoldsTs.nil _ _⟩
  · obtain ⟨b, off, rfl, hall⟩ := h3 hn
    obtain ⟨l, hl, hp⟩ := choose_list n (fun i (t : List Nd) => (∃ B c', w.cell? ⟨b, off + i, none⟩ = some (.slice B t.length c') ∧ HoldsN w B t ∧ t.length ≤ c') ∧ t.length ≤ maxLen ∧ ∀ k ∈ t, MayNd k) (fun i hi => by
      obtain ⟨f', cs', y, q1, q2, q3⟩ := hall i hi
      obtain ⟨B, t, c', rfl, r1, r2, r3, r4⟩ := open_nodes q3
      have s0 := q2 0 (by omega)
      exact ⟨t, ⟨B, c', by simpa using s0, r4, r1⟩, by omega, r3⟩)
    refine ⟨_, l, c, by rw [hl], by omega, h2, fun k hk => ?_, fun i k hk => ⟨b, off, rfl, (hp i k hk).1⟩⟩
    obtain ⟨i, hi⟩ := List.getElem?_of_mem hk
    exact (hp i k hi).2
/-- The argument's own value. -/
theorem trod_cells {t : TypeId} {v : Value} {d : DataW H} {ps : List MemPlace} {a : Option Addr} {n c : Nat} (e : v = .slice a n c) (h : DataW.Trod enc Tryd.prog w base sp held t v d ps) : ∃ fuel, DataW.trod enc Tryd.prog w base sp held fuel t [v] = some (d, ps) := by
  obtain ⟨fuel, hf⟩ := h
  subst e
  exact ⟨fuel, hf⟩
set_option maxRecDepth 100000 in
theorem open_nodesV {r : Reach} {b0 : Nat} {v : Value} {d : DataW H} {ps : List MemPlace} (hval : Value.okWide Tryd.prog w r b0 23 v) (h : DataW.Trod enc Tryd.prog w base sp held 23 v d ps) :
    ∃ (A : Option Addr) (l : List Nd) (c : Nat), v = .slice A l.length c ∧ l.length ≤ c ∧ c ≤ maxLen ∧ (∀ k ∈ l, MayNd k) ∧ HoldsN w A l := by
  obtain ⟨a0, n0, c0, e⟩ := okWide_slice e_nodes hval
  obtain ⟨fuel, hf⟩ := trod_cells e h
  obtain ⟨A, l, c, hc, h1⟩ := open_nodes hf
  exact ⟨A, l, c, (List.cons.inj hc).1, h1⟩
set_option maxRecDepth 100000 in
theorem open_treesV {r : Reach} {b0 : Nat} {v : Value} {d : DataW H} {ps : List MemPlace} (hval : Value.okWide Tryd.prog w r b0 22 v) (h : DataW.Trod enc Tryd.prog w base sp held 22 v d ps) :
    ∃ (A : Option Addr) (l : List (List Nd)) (c : Nat), v = .slice A l.length c ∧ l.length ≤ c ∧ c ≤ maxLen ∧ (∀ t ∈ l, t.length ≤ maxLen ∧ ∀ k ∈ t, MayNd k) ∧ HoldsTs w A l := by
  obtain ⟨a0, n0, c0, e⟩ := okWide_slice e_trees hval
  obtain ⟨fuel, hf⟩ := trod_cells e h
  obtain ⟨A, l, c, hc, h1⟩ := open_trees hf
  exact ⟨A, l, c, (List.cons.inj hc).1, h1⟩
end
end Go.Proofs.YtbcgdkhkljeomaaDoor
