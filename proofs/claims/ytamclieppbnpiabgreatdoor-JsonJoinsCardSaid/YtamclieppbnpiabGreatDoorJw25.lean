/-
  The arguments of this seat: values, values in values.
-/
import Derived.Test.YtamclieppbnpiabGreatDoorProg
import Derived.Test.YtamclieppbnpiabGreatDoorReg
import Derived.WalkKit
import Derived.WalkSpells
import Derived.WalkLawsBesides
import Derived.Lib.Hide
import Derived.Lib.MinMax
import Derived.Deep.QuietTactic
import Derived.BigQuiet
import Derived.OwnWalk
import Derived.Deep.AppendLies
import Derived.KernelRfl
import Derived.Test.YtamclieppbnpiabGreatDoorChecked
import Derived.ChangeMaps5
import Derived.ChangeArms
import Derived.Deep.Slices
import Derived.WideShapes
import Derived.Test.YtamclieppbnpiabGreatDoorJw5
import Derived.Test.YtamclieppbnpiabGreatDoorJw3
import Derived.Test.YtamclieppbnpiabGreatDoorJw17
import Derived.Test.YtamclieppbnpiabGreatDoorJw24
set_option linter.unusedSimpArgs false
set_option linter.unusedVariables false
namespace Go.Proofs.YtamclieppbnpiabGreatDoor
open Go.RowKit Go.WideShapes Go.ChangeShapes Go.Deep
open Fz (HoldsS)

theorem e_jsons : Tryz.prog.underlying 23 = some (.slice 25) := by kernel_rfl
theorem e_strs : Tryz.prog.underlying 22 = some (.slice 9) := by kernel_rfl
theorem e_cjson : Tryz.prog.cellsOf 25 = 6 := by kernel_rfl
theorem e_cjsons : Tryz.prog.cellsOf 23 = 1 := by kernel_rfl
theorem e_cstrs : Tryz.prog.cellsOf 22 = 1 := by kernel_rfl
theorem e_int : Tryz.prog.underlying 3 = some (.int .i64) := by kernel_rfl
theorem e_int64 : Tryz.prog.underlying 2 = some (.int .i64) := by kernel_rfl
theorem e_string : Tryz.prog.underlying 9 = some .string := by kernel_rfl
theorem e_bool : Tryz.prog.underlying 4 = some .bool := by kernel_rfl
theorem e_cint : Tryz.prog.cellsOf 3 = 1 := by kernel_rfl
theorem e_cint64 : Tryz.prog.cellsOf 2 = 1 := by kernel_rfl
theorem e_cstring : Tryz.prog.cellsOf 9 = 1 := by kernel_rfl
theorem e_cbool : Tryz.prog.cellsOf 4 = 1 := by kernel_rfl
theorem e_struct : ∃ fs : Array Field, Tryz.prog.underlying 25 = some (.struct fs) ∧ fs.map (fun f => (f.type, f.offset)) = #[(3, 0), (4, 1), (2, 2), (9, 3), (22, 4), (23, 5)] :=
  ⟨_, Tryz.underlying25, by simp⟩
theorem field_of {fs : Array Field} {l : Array (TypeId × Nat)} (h : fs.map (fun f => (f.type, f.offset)) = l) (j : Nat) (x : TypeId × Nat) (hx : l[j]? = some x) : ∃ f : Field, fs[j]? = some f ∧ f.type = x.1 ∧ f.offset = x.2 := by
  subst h
  rw [Array.getElem?_map] at hx
  cases hf : fs[j]? with
  | none => rw [hf] at hx; cases hx
  | some f =>
    rw [hf] at hx
    cases Option.some.inj hx
    exact ⟨f, rfl, rfl, rfl⟩
theorem cell_spot {w : World} {a : Addr} {v : Value} (h : w.cell? a = some v) : a.spot = none := by
  cases hsp : a.spot with
  | none => rfl
  | some z =>
    exfalso
    simp [World.cell?, hsp] at h
    split at h <;> simp at h
theorem add_off (b o j : Nat) : (⟨b, o, none⟩ : Addr).add j = ⟨b, o + j, none⟩ := by
  unfold Addr.add
  split
  · rename_i h; subst h; rfl
  · rfl
theorem choose_list {α : Type} (n : Nat) (p : Nat → α → Prop) (h : ∀ i, i < n → ∃ x, p i x) : ∃ l : List α, l.length = n ∧ ∀ (k : Nat) (x : α), l[k]? = some x → p k x := by
  induction n with
  | zero => exact ⟨[], rfl, fun k x hk => by simp at hk⟩
  | succ n ih =>
    obtain ⟨l, hl, hp⟩ := ih fun i hi => h i (by omega)
    obtain ⟨x, hx⟩ := h n (by omega)
    refine ⟨l ++ [x], by simp [hl], fun k y hk => ?_⟩
    rcases Nat.lt_or_ge k l.length with h1 | h1
    · rw [List.getElem?_append_left h1] at hk
      exact hp k y hk
    · rw [List.getElem?_append_right h1] at hk
      have : k - l.length = 0 := by
        have := (List.getElem?_eq_some_iff.1 hk).1
        simp at this
        omega
      rw [this] at hk
      simp at hk
      subst hk
      have : k = n := by omega
      subst this
      exact hx

section
variable {H : Type} {enc : TypeId × Value → H} {w : World} {base : Nat} {sp : Nat → Bool} {held : Bool}

/-- A slice's elements, each from its cells, of a lesser depth. -/
theorem open_row {t e : TypeId} {fuel s : Nat} {cs : List Value} {x : DataW H × List MemPlace} (ht : Tryz.prog.underlying t = some (.slice e)) (hs : Tryz.prog.cellsOf e = s) (h0 : 0 < s) (h : DataW.trod enc Tryz.prog w base sp held fuel t cs = some x) :
    ∃ (A : Option Addr) (n c : Nat), cs = [.slice A n c] ∧ n ≤ c ∧ c ≤ maxLen ∧ (0 < n → ∃ b off, A = some ⟨b, off, none⟩ ∧ ∀ i, i < n → ∃ fuel' cs' y, fuel' < fuel ∧ cs'.length = s ∧ (∀ j, j < s → w.cell? ⟨b, off + i * s + j, none⟩ = cs'[j]?) ∧ DataW.trod enc Tryz.prog w base sp held fuel' e cs' = some y) := by
  rcases DataW.trod_slice ht h with ⟨hc, _⟩ | ⟨a, len, cap, elems, rest, n, hf, hc, _, _, hl, hm, hlen, hall, _⟩
  · exact ⟨none, 0, 0, hc, Nat.le_refl _, by unfold maxLen; omega, fun h => by omega⟩
  · refine ⟨some a, len, cap, hc, hl, hm, fun hn => ?_⟩
    rw [hs] at hall
    have each : ∀ i, i < len → ∃ cs' y, w.cells? base (a.add (i * s)) s = some cs' ∧ DataW.trod enc Tryz.prog w base sp held n e cs' = some y := fun i hi => by
      have h1 := hall i hi
      rw [List.getElem?_eq_getElem (by omega)] at h1
      obtain ⟨cs', h2, h3⟩ := Option.bind_eq_some_iff.1 h1
      exact ⟨cs', _, h2, h3⟩
    have hspot : a.spot = none := by
      obtain ⟨cs', y, h1, _⟩ := each 0 (by omega)
      obtain ⟨_, hlen, h2⟩ := World.cells?_some h1
      have h3 := h2 0 h0
      rw [List.getElem?_eq_getElem (by omega), Nat.zero_mul] at h3
      exact cell_spot h3
    obtain ⟨b, off, spot⟩ := a
    simp only at hspot
    subst hspot
    refine ⟨b, off, rfl, fun i hi => ?_⟩
    obtain ⟨cs', y, h1, h2⟩ := each i hi
    obtain ⟨_, hlen, h3⟩ := World.cells?_some h1
    refine ⟨n, cs', y, by omega, hlen, fun j hj => ?_, h2⟩
    rw [← h3 j hj, add_off, add_off]
/-- Texts. -/
theorem open_strs {fuel : Nat} {cs : List Value} {x : DataW H × List MemPlace} (h : DataW.trod enc Tryz.prog w base sp held fuel 22 cs = some x) :
    ∃ (A : Option Addr) (l : List ByteArray) (c : Nat), cs = [.slice A l.length c] ∧ l.length ≤ c ∧ c ≤ maxLen ∧ (∀ k ∈ l, k.size ≤ maxLen) ∧ HoldsS w A l := by
  obtain ⟨A, n, c, rfl, h1, h2, h3⟩ := open_row e_strs e_cstring (by omega) h
  rcases Nat.eq_zero_or_pos n with rfl | hn
  · exact ⟨A, [], c, rfl, h1, h2, fun k hk => by simp at hk, Fz.HoldsS.nil _ _⟩
  · obtain ⟨b, off, rfl, hall⟩ := h3 hn
    obtain ⟨l, hl, hp⟩ := choose_list n (fun i (k : ByteArray) => w.cell? ⟨b, off + i, none⟩ = some (.string k) ∧ k.size ≤ maxLen) (fun i hi => by
      obtain ⟨f', cs', y, _, q1, q2, q3⟩ := hall i hi
      obtain ⟨k, rfl, _, hk⟩ := DataW.trod_string e_string q3
      have := q2 0 (by omega)
      exact ⟨k, by simpa using this, hk⟩)
    refine ⟨_, l, c, by rw [hl], by omega, h2, fun k hk => ?_, fun i k hk => ⟨b, off, rfl, (hp i k hk).1⟩⟩
    obtain ⟨i, hi⟩ := List.getElem?_of_mem hk
    exact (hp i k hi).2
theorem inI_of_wf {n : Int} (h : (Lit.int .i64 n).wf = true) : InI n := by
  simp only [Lit.wf, IntKind.min, IntKind.max, IntKind.signed, IntKind.bits, Bool.and_eq_true, decide_eq_true_eq, if_true] at h
  unfold InI
  omega
set_option maxRecDepth 100000 in
set_option maxHeartbeats 1000000 in
/-- A value, however deep. -/
theorem open_json (fuel : Nat) : ∀ {cs : List Value} {x : DataW H × List MemPlace}, DataW.trod enc Tryz.prog w base sp held fuel 25 cs = some x → ∃ v : Js, JC w v cs ∧ okJ maxLen v := by
  induction fuel using Nat.strongRecOn with
  | _ fuel ih =>
  intro cs x h
  obtain ⟨fs, hs, hm⟩ := e_struct
  obtain ⟨xs, n, hn, _, hlen, hx0, hf⟩ := DataW.trod_struct hs h
  obtain ⟨f0, g0, t0, o0⟩ := field_of hm 0 (3, 0) rfl
  obtain ⟨f1, g1, t1, o1⟩ := field_of hm 1 (4, 1) rfl
  obtain ⟨f2, g2, t2, o2⟩ := field_of hm 2 (2, 2) rfl
  obtain ⟨f3, g3, t3, o3⟩ := field_of hm 3 (9, 3) rfl
  obtain ⟨f4, g4, t4, o4⟩ := field_of hm 4 (22, 4) rfl
  obtain ⟨f5, g5, t5, o5⟩ := field_of hm 5 (23, 5) rfl
  simp only at t0 o0 t1 o1 t2 o2 t3 o3 t4 o4 t5 o5
  have h0 := hf 0 f0 g0
  have h1 := hf 1 f1 g1
  have h2 := hf 2 f2 g2
  have h3 := hf 3 f3 g3
  have h4 := hf 4 f4 g4
  have h5 := hf 5 f5 g5
  have hx : xs.length = 6 := by
    have : fs.size = 6 := by have := congrArg Array.size hm; simpa using this
    omega
  rw [e_cjson] at hlen
  match xs, hx, cs, hlen with
  | [y0, y1, y2, y3, y4, y5], _, [v0, v1, v2, v3, v4, v5], _ =>
    rw [t0, o0, e_cint] at h0
    rw [t1, o1, e_cbool] at h1
    rw [t2, o2, e_cint64] at h2
    rw [t3, o3, e_cstring] at h3
    rw [t4, o4, e_cstrs] at h4
    rw [t5, o5, e_cjsons] at h5
    obtain ⟨k, c0, _, _⟩ := DataW.trod_int e_int (h0.trans rfl : _ = some y0)
    obtain ⟨b, c1, _⟩ := DataW.trod_bool e_bool (h1.trans rfl : _ = some y1)
    obtain ⟨m, c2, _, hw⟩ := DataW.trod_int e_int64 (h2.trans rfl : _ = some y2)
    obtain ⟨s, c3, _, hz⟩ := DataW.trod_string e_string (h3.trans rfl : _ = some y3)
    obtain ⟨A, ks, c, c4, p1, p2, p3, p4⟩ := open_strs (h4.trans rfl : _ = some y4)
    obtain ⟨B, nl, d, c5, q1, q2, q3⟩ := open_row e_jsons e_cjson (by omega) (h5.trans rfl : _ = some y5)
    obtain rfl : v0 = .int .i64 k := (List.cons.inj c0).1
    obtain rfl : v1 = .bool b := (List.cons.inj c1).1
    obtain rfl : v2 = .int .i64 m := (List.cons.inj c2).1
    obtain rfl : v3 = .string s := (List.cons.inj c3).1
    obtain rfl : v4 = .slice A ks.length c := (List.cons.inj c4).1
    obtain rfl : v5 = .slice B nl d := (List.cons.inj c5).1
    have hL : ∃ l : List Js, l.length = nl ∧ HoldsJ w B l ∧ ∀ x ∈ l, okJ maxLen x := by
      rcases Nat.eq_zero_or_pos nl with rfl | hn0
      · exact ⟨[], rfl, HoldsJ.nil _ _, fun x hx => by cases hx⟩
      · obtain ⟨bb, off, rfl, hall⟩ := q3 hn0
        obtain ⟨l, hl, hp⟩ := choose_list nl (fun i (y : Js) => (∃ cs' : List Value, (∀ j u, cs'[j]? = some u → w.cell? ⟨bb, off + i * 6 + j, none⟩ = some u) ∧ JC w y cs') ∧ okJ maxLen y) (fun i hi => by
          obtain ⟨f', cs', y, r0, r1, r2, r3⟩ := hall i hi
          obtain ⟨y', r4, r5⟩ := ih f' (by omega) r3
          refine ⟨y', ⟨cs', fun j u hj => ?_, r4⟩, r5⟩
          have hj6 := (List.getElem?_eq_some_iff.1 hj).1
          exact (r2 j (by omega)).trans hj)
        refine ⟨l, hl, fun i y hy => ?_, fun y hy => ?_⟩
        · obtain ⟨cs', s1, s2⟩ := (hp i y hy).1
          exact ⟨bb, off, cs', rfl, s1, s2⟩
        · obtain ⟨i, hi⟩ := List.getElem?_of_mem hy
          exact (hp i y hi).2
    obtain ⟨l, rfl, hL1, hL2⟩ := hL
    exact ⟨.mk k b m s ks l, JC_iff.2 ⟨A, c, B, d, rfl, p4, p1, q1, hL1⟩, okJ_iff.2 ⟨inI_of_wf hw, hz, Nat.le_trans p1 p2, Nat.le_trans q1 q2, p3, hL2⟩⟩
set_option maxRecDepth 100000 in
theorem open_jsonV {r : Reach} {b0 : Nat} {v : Value} {d : DataW H} {ps : List MemPlace} (hval : Value.okWide Tryz.prog w r b0 25 v) (h : DataW.Trod enc Tryz.prog w base sp held 25 v d ps) :
    ∃ (x : Js) (cs : List Value), v = .agg cs.toArray ∧ JC w x cs ∧ okJ maxLen x := by
  obtain ⟨fs, hs, hm⟩ := e_struct
  obtain ⟨cs, rfl, _⟩ := okWide_struct hs hval
  obtain ⟨fuel, hf⟩ := h
  obtain ⟨x, h1, h2⟩ := open_json fuel hf
  exact ⟨x, cs.toList, by simp, h1, h2⟩
end
end Go.Proofs.YtamclieppbnpiabGreatDoor
/-
  A number's digits one by one. No program here.
-/
namespace Go.Proofs.YtamclieppbnpiabGreatDoor
open Go.RowKit Go.Lib

def valA (acc : Nat) (l : List UInt8) : Nat := l.foldl (fun (a : Nat) (c : UInt8) => a * 10 + (c.toNat - 48)) acc
theorem valA_nil (acc : Nat) : valA acc [] = acc := by unfold valA; rw [List.foldl_nil]
theorem valA_cons (acc : Nat) (c : UInt8) (r : List UInt8) : valA acc (c :: r) = valA (acc * 10 + (c.toNat - 48)) r := by unfold valA; rw [List.foldl_cons]
theorem valA_ge (l : List UInt8) : ∀ acc : Nat, acc ≤ valA acc l := by
  induction l with
  | nil => intro acc; rw [valA_nil]; exact Nat.le_refl _
  | cons c r ih =>
    intro acc
    rw [valA_cons]
    exact Nat.le_trans (by omega) (ih (acc * 10 + (c.toNat - 48)))
theorem valA_app (a b : List UInt8) : ∀ acc : Nat, valA acc (a ++ b) = valA (valA acc a) b := by
  induction a with
  | nil => intro acc; rw [valA_nil, List.nil_append]
  | cons c a ih => intro acc; rw [List.cons_append, valA_cons, valA_cons, ih]
theorem valA_snoc (a : List UInt8) (c : UInt8) : valA 0 (a ++ [c]) = valA 0 a * 10 + (c.toNat - 48) := by rw [valA_app, valA_cons, valA_nil]
theorem parseM_val (l : List UInt8) : ∀ acc : Nat, (∀ c ∈ l, isDg c = true) → acc ≤ 18446744073709551615 → parseUintM 18446744073709551615 acc l = if valA acc l ≤ 18446744073709551615 then .ok (valA acc l) else .range := by
  induction l with
  | nil =>
    intro acc _ h
    rw [valA_nil, if_pos h]
    rfl
  | cons c r ih =>
    intro acc hd h
    have hc := hd c (by simp)
    unfold isDg at hc
    simp only [Bool.and_eq_true, decide_eq_true_eq] at hc
    have hg := valA_ge r (acc * 10 + (c.toNat - 48))
    have hi := ih (acc * 10 + (c.toNat - 48)) (fun x hx => hd x (by simp [hx]))
    rw [valA_cons]
    simp only [parseUintM]
    rw [if_pos hc]
    generalize valA (acc * 10 + (c.toNat - 48)) r = V at *
    by_cases h1 : 1844674407370955162 ≤ acc
    · rw [if_pos h1, if_neg (by omega)]
    · rw [if_neg h1]
      by_cases h2 : 18446744073709551615 < acc * 10 + (c.toNat - 48)
      · rw [if_pos h2, if_neg (by omega)]
      · rw [if_neg h2]
        exact hi (by omega)
theorem tw_mem {p : UInt8 → Bool} (l : List UInt8) : ∀ c ∈ l.takeWhile p, p c = true := by
  induction l with
  | nil => intro c hc; simp at hc
  | cons a l ih =>
    intro c hc
    rw [List.takeWhile_cons] at hc
    split at hc
    · rename_i h
      rcases List.mem_cons.1 hc with rfl | hc
      · exact h
      · exact ih c hc
    · simp at hc
theorem digits_dg (l : List UInt8) : ∀ c ∈ digitsL l, isDg c = true := tw_mem _
theorem sign_two (l : List UInt8) : signL l = [] ∨ signL l = [45] := by
  cases l with
  | nil => exact .inl rfl
  | cons c r =>
    rw [signL_cons]
    split
    · exact .inr rfl
    · exact .inl rfl
/-- A number's text, told by its digits. -/
theorem digitL_val (l : List UInt8) : digitL l = if digitsL l = [] ∨ (1 < (digitsL l).length ∧ (digitsL l).head? = some 48) ∨ (if signL l = [] then 9223372036854775808 ≤ valA 0 (digitsL l) else 9223372036854775808 < valA 0 (digitsL l)) then .error 150
    else .ok (if signL l = [] then (valA 0 (digitsL l) : Int) else -(valA 0 (digitsL l) : Int), l.drop (allL l).length) := by
  have e2 : (2 : Nat) ^ (64 - 1) = 9223372036854775808 := by decide
  have e3 : (2 : Nat) ^ 64 - 1 = 18446744073709551615 := by decide
  have hd := digits_dg l
  have hU : digitsL l ≠ [] → parseUintB 64 (digitsL l) = if valA 0 (digitsL l) ≤ 18446744073709551615 then .ok (valA 0 (digitsL l)) else .range := fun hne => by
    unfold parseUintB
    rw [if_neg hne, e3]
    exact parseM_val _ 0 hd (by omega)
  unfold digitL
  have ha : allL l = signL l ++ digitsL l := rfl
  generalize (allL l).length = n at *
  rw [ha]
  clear ha
  rcases sign_two l with hs | hs
  · rw [hs]
    simp only [List.nil_append, if_true]
    generalize digitsL l = D at *
    cases D with
    | nil => simp [parseIntB]
    | cons c r =>
      have hc := hd c (by simp)
      unfold isDg at hc
      simp only [Bool.and_eq_true, decide_eq_true_eq] at hc
      rw [parseIntB_plain _ _ _ (by omega) (by omega), e2, hU (by simp)]
      generalize valA 0 (c :: r) = V at *
      by_cases h1 : V ≤ 18446744073709551615
      · rw [if_pos h1]
        simp only [signlessC]
        by_cases h2 : 9223372036854775808 ≤ V
        · rw [if_pos h2, if_pos (.inr (.inr h2))]
        · rw [if_neg h2]
          simp only [reduceCtorEq, false_or, h2, or_false]
      · rw [if_neg h1, if_pos (.inr (.inr (by omega)))]
        rfl
  · rw [hs]
    simp only [List.cons_append, List.nil_append, reduceCtorEq, if_false]
    rw [parseIntB_minus, e2]
    generalize digitsL l = D at *
    by_cases hne : D = []
    · subst hne
      rw [if_pos (.inl rfl)]
      simp [parseUintB, signedC]
    · rw [hU hne]
      generalize valA 0 D = V at *
      by_cases h1 : V ≤ 18446744073709551615
      · rw [if_pos h1]
        simp only [signedC]
        by_cases h2 : 9223372036854775808 < V
        · rw [if_pos h2, if_pos (.inr (.inr h2))]
        · rw [if_neg h2]
          simp only [hne, false_or, h2, or_false]
      · rw [if_neg h1, if_pos (.inr (.inr (by omega)))]
        rfl
end Go.Proofs.YtamclieppbnpiabGreatDoor
/-
  A text's value: by the program.
-/
namespace Go.Proofs.YtamclieppbnpiabGreatDoor
open Go Go.RowKit Go.Maps
open Fz (HoldsS)

def zeroJ : Value := .agg #[.int .i64 0, .bool false, .int .i64 0, .string ⟨#[]⟩, .slice none 0 0, .slice none 0 0]
/-- What a text's reading leaves. -/
def ParsePost (E : Except Int Js) (e : Ending) (w w' : World) : Prop := Below w.heap.size w w' ∧ match E with
  | .ok v => ∃ cs, e = .returned (.tuple #[.agg cs, .int .i64 0]) ∧ JC w' v cs.toList
  | .error c => e = .returned (.tuple #[zeroJ, .int .i64 c])
theorem parse_of (l : List UInt8) : parseL l = match valueL 64 (skipL l) with | .error e => .error e | .ok (v, r) => if skipL r = [] then .ok v else .error 150 := by
  unfold parseL
  cases valueL 64 (skipL l) <;> rfl
set_option maxRecDepth 100000 in
set_option maxHeartbeats 8000000 in
theorem parse_any (a : Addr) (l : List UInt8) (w : World) (E : Except Int Js) (hE : parseL l = E) (hl : l.length ≤ 100000000) (hW : WJ a w) :
    Calls Tryz.prog 10 #[.string (bs l)] w fun e w' => ParsePost E e w w' := by
  have hlow := hW.low
  have hb1 := below_new w (.cells #[.int .i64 0, .bool false, .int .i64 0, .string ⟨#[]⟩, .slice none 0 0, .slice none 0 0] tJ)
  have hb2 := below_new (w.alloc (.cells #[.int .i64 0, .bool false, .int .i64 0, .string ⟨#[]⟩, .slice none 0 0, .slice none 0 0] tJ)) (.cells #[.string (bs l), .int .i64 0, .nilIface] tR)
  have hz1 : (w.alloc (.cells #[.int .i64 0, .bool false, .int .i64 0, .string ⟨#[]⟩, .slice none 0 0, .slice none 0 0] tJ)).heap.size = w.heap.size + 1 := by simp
  have hz2 : ((w.alloc (.cells #[.int .i64 0, .bool false, .int .i64 0, .string ⟨#[]⟩, .slice none 0 0, .slice none 0 0] tJ)).alloc (.cells #[.string (bs l), .int .i64 0, .nilIface] tR)).heap.size = w.heap.size + 2 := by simp
  have hX := zero_row w
  have hR := heap_alloc_new (w.alloc (.cells #[.int .i64 0, .bool false, .int .i64 0, .string ⟨#[]⟩, .slice none 0 0, .slice none 0 0] tJ)) (.cells #[.string (bs l), .int .i64 0, .nilIface] tR)
  rw [hz1] at hb2 hR
  have hXV := (hb2.block w.heap.size (by omega)).trans hX
  have hbV := hb1.trans (hb2.mono (by omega))
  have HW := Lib.hid (hW.keep hbV)
  clear hb1 hb2 hX hW hz1
  go_enter Tryz.func10, Tryz.ntmps10
  go_wp2_with fail
  generalize (w.alloc (.cells #[.int .i64 0, .bool false, .int .i64 0, .string ⟨#[]⟩, .slice none 0 0, .slice none 0 0] tJ)).alloc (.cells #[.string (bs l), .int .i64 0, .nilIface] tR) = V at *
  have HRV := Lib.hid (show RdAt V (w.heap.size + 1) l 0 .nilIface from hR)
  have HXV := Lib.hid hXV
  have HBV := Lib.hid hbV
  have lRV := HRV.out.lt
  have HS0 := Lib.hid (skip_any (w.heap.size + 1) l 0 .nilIface V HRV.out)
  clear hR hXV hbV
  go_wp2_with fail
  refine HS0.out.mono ?_
  rintro e w1 ⟨rfl, hs⟩
  have hR1 : 9 ≤ w.heap.size + 1 := by omega
  have HV1 := Lib.hid (val_at 64 (Nat.le_refl _) a (w.heap.size + 1) (skipL l) 0 w1 _ rfl (by omega) hs.1 (by have := skip_len l; omega) (HW.out.but hs.2 HW.out.low hR1) hR1)
  have HS1 := Lib.hid hs
  clear hs
  go_wp2_with fail
  refine HV1.out.mono ?_
  intro e w2 hp
  obtain ⟨x, q, ev, hf, hs, hc⟩ := hp.ev
  obtain ⟨A8, c8, B8, d8, rfl, hJ⟩ := hf.six
  have HS2 := Lib.hid (Steps.trans HS1.out hs)
  have hbY := below_new w2 (.cells #[.int .i64 x.kind, .bool x.yes, .int .i64 x.n, .string x.s, .slice A8 x.keys.length c8, .slice B8 x.l.length d8] tJ)
  have hY := heap_alloc_new w2 (.cells #[.int .i64 x.kind, .bool x.yes, .int .i64 x.n, .string x.s, .slice A8 x.keys.length c8, .slice B8 x.l.length d8] tJ)
  have HJ := Lib.hid (hJ.stay (fun b hb => hbY.block b hb.2))
  have HSk := Lib.hid (skip_any (w.heap.size + 1) q 0 ev _ (HS2.out.1.below hbY))
  have HC := Lib.hid hc
  have hzY : (w2.alloc (.cells #[.int .i64 x.kind, .bool x.yes, .int .i64 x.n, .string x.s, .slice A8 x.keys.length c8, .slice B8 x.l.length d8] tJ)).heap.size = w2.heap.size + 1 := by simp
  have HKY := Lib.hid (show Lz.KeptBut V.heap.size (w.heap.size + 1) V (w2.alloc (.cells #[.int .i64 x.kind, .bool x.yes, .int .i64 x.n, .string x.s, .slice A8 x.keys.length c8, .slice B8 x.l.length d8] tJ)) from HS2.out.2.trans (but_below' (hbY.mono HS2.out.2.size)))
  have HYr := Lib.hid hY
  have HZ2 := Lib.hid (show V.heap.size ≤ w1.heap.size ∧ w1.heap.size ≤ w2.heap.size from ⟨HS1.out.2.size, hs.2.size⟩)
  clear hp hf hs hc hJ hbY hY
  go_wp2_with fail
  generalize w2.alloc (.cells #[.int .i64 x.kind, .bool x.yes, .int .i64 x.n, .string x.s, .slice A8 x.keys.length c8, .slice B8 x.l.length d8] tJ) = Y at *
  refine HSk.out.mono ?_
  rintro e w3 ⟨rfl, hs⟩
  have HY3 := Lib.hid ((hs.2.block w2.heap.size (by omega) (by have := HZ2.out; omega)).trans HYr.out)
  have HJ3 : Hid (JD (fun b => w1.heap.size ≤ b ∧ b < w2.heap.size) w3 x [.int .i64 x.kind, .bool x.yes, .int .i64 x.n, .string x.s, .slice A8 x.keys.length c8, .slice B8 x.l.length d8]) := Lib.hid (HJ.out.stay (fun b hb => hs.2.block b (by omega) (by have := HZ2.out; omega)))
  have HK3 := Lib.hid (but_trans HKY.out hs.2 HKY.out.size)
  have HR3 := Lib.hid hs.1
  have HX3 := Lib.hid ((HK3.out.block w.heap.size (by omega) (by omega)).trans HXV.out)
  have HB3 := Lib.hid (HBV.out.trans (show Below w.heap.size V w3 from but_below (but_mono HK3.out (by omega)) (by omega)))
  have HW3 := Lib.hid (HW.out.but HK3.out HW.out.low hR1)
  have c0 := HR3.out.c0
  have lR3 := HR3.out.lt
  have lX3 := (Array.getElem?_eq_some_iff.1 HX3.out).1
  have lY3 := (Array.getElem?_eq_some_iff.1 HY3.out).1
  clear hs
  rw [parse_of] at hE
  have HE := Lib.hid hE
  clear hE
  by_cases hq : skipL q = []
  · have qe : (bs (skipL q)).toList.isEmpty = true := Lz.empty_is (by rw [hq]; rfl)
    rcases HC.out with ⟨rfl, hv⟩ | ⟨c, rfl, hv⟩
    · have HE9 : Hid (E = .ok x) := Lib.hid (by rw [← HE.out, hv]; simp only; rw [if_pos hq])
      have c2 := HR3.out.c2
      obtain ⟨y0, y1, y2, y3, y4, y5⟩ := six_at HY3.out
      obtain ⟨x0, x1, x2, x3, x4, x5⟩ := six_at HX3.out
      have z2 := fun j => frozen_of_row w3 _ j _ _ HX3.out
      clear hq hv
      go_wp2_with fail
      have hR9 := set6 (b0 := .int .i64 x.kind) (b1 := .bool x.yes) (b2 := .int .i64 x.n) (b3 := .string x.s) (b4 := .slice A8 x.keys.length c8) (b5 := .slice B8 x.l.length d8) HX3.out
      have hS9 := below6 (m := w.heap.size) HB3.out (Nat.le_refl _) (.int .i64 x.kind) (.bool x.yes) (.int .i64 x.n) (.string x.s) (.slice A8 x.keys.length c8) (.slice B8 x.l.length d8)
      have hJ9 := HJ3.out _ (fun b hb => set6_other (W := w3) (X := w.heap.size) (k := b) (by have := HZ2.out; omega) (.int .i64 x.kind) (.bool x.yes) (.int .i64 x.n) (.string x.s) (.slice A8 x.keys.length c8) (.slice B8 x.l.length d8))
      generalize ((((((w3.setCell ⟨w.heap.size, 0, none⟩ (.int .i64 x.kind)).setCell ⟨w.heap.size, 1, none⟩ (.bool x.yes)).setCell ⟨w.heap.size, 2, none⟩ (.int .i64 x.n)).setCell ⟨w.heap.size, 3, none⟩ (.string x.s)).setCell ⟨w.heap.size, 4, none⟩ (.slice A8 x.keys.length c8)).setCell ⟨w.heap.size, 5, none⟩ (.slice B8 x.l.length d8)) = W9 at *
      obtain ⟨v0, v1, v2, v3, v4, v5⟩ := six_at hR9
      exact bodyPost_ret (v := .tuple #[.agg #[.int .i64 x.kind, .bool x.yes, .int .i64 x.n, .string x.s, .slice A8 x.keys.length c8, .slice B8 x.l.length d8], .int .i64 0]) (by simp [results, Tryz.results10, go_sem, v0, v1, v2, v3, v4, v5]) rfl ⟨hS9, by rw [HE9.out]; exact ⟨_, rfl, hJ9⟩⟩
    · have HE9 : Hid (E = .error c) := Lib.hid (by rw [← HE.out, hv])
      have c2 := HR3.out.c2
      unfold errV at c2
      clear hq hv
      have HX4 := HX3
      have HT := Lib.hid (told_err a c w3 HW3.out)
      unfold errV at HT
      go_wp2_with fail
      refine HT.out.mono ?_
      rintro e w9 ⟨rfl, hb9⟩
      have hX9 := (hb9.block w.heap.size (Array.getElem?_eq_some_iff.1 HX4.out).1).trans HX4.out
      obtain ⟨x0, x1, x2, x3, x4, x5⟩ := six_at hX9
      have z2 := fun j => frozen_of_row w9 _ j _ _ hX9
      have lX9 := (Array.getElem?_eq_some_iff.1 hX9).1
      have HX9 := Lib.hid hX9
      have HB9 := Lib.hid (HB3.out.trans (hb9.mono (HB3.out.size)))
      clear hb9 hX9
      go_wp2_with fail
      have hR9 := set6 (b0 := .int .i64 0) (b1 := .bool false) (b2 := .int .i64 0) (b3 := .string ⟨#[]⟩) (b4 := .slice none 0 0) (b5 := .slice none 0 0) HX9.out
      have hS9 := below6 (m := w.heap.size) HB9.out (Nat.le_refl _) (.int .i64 0) (.bool false) (.int .i64 0) (.string ⟨#[]⟩) (.slice none 0 0) (.slice none 0 0)
      generalize ((((((w9.setCell ⟨w.heap.size, 0, none⟩ (.int .i64 0)).setCell ⟨w.heap.size, 1, none⟩ (.bool false)).setCell ⟨w.heap.size, 2, none⟩ (.int .i64 0)).setCell ⟨w.heap.size, 3, none⟩ (.string ⟨#[]⟩)).setCell ⟨w.heap.size, 4, none⟩ (.slice none 0 0)).setCell ⟨w.heap.size, 5, none⟩ (.slice none 0 0)) = W9 at *
      obtain ⟨v0, v1, v2, v3, v4, v5⟩ := six_at hR9
      exact bodyPost_ret (v := .tuple #[zeroJ, .int .i64 c]) (by simp [zeroJ, results, Tryz.results10, go_sem, v0, v1, v2, v3, v4, v5]) rfl ⟨hS9, by rw [HE9.out]⟩
  · have qe : (bs (skipL q)).toList.isEmpty = false := Lz.empty_not (by rw [bs_size]; exact List.length_pos_iff.2 hq)
    rcases HC.out with ⟨rfl, hv⟩ | ⟨c, rfl, hv⟩
    · have HE9 : Hid (E = .error 150) := Lib.hid (by rw [← HE.out, hv]; simp only; rw [if_neg hq])
      have HF := Lib.hid (fail_any a (w.heap.size + 1) 150 (skipL q) 0 .nilIface w3 HR3.out (.nil a) HW3.out)
      clear hq hv
      go_wp2_with fail
      refine HF.out.mono ?_
      rintro e w4 ⟨rfl, hs⟩
      have HS4 := Lib.hid hs
      have c2 := hs.1.c2
      have lR4 := hs.1.lt
      unfold failV errV at c2
      simp only at c2
      clear hs
      have HX4 := Lib.hid ((HS4.out.2.block w.heap.size lX3 (by omega)).trans HX3.out)
      have HT := Lib.hid (told_err a 150 w4 (HW3.out.but HS4.out.2 HW3.out.low hR1))
      unfold errV at HT
      go_wp2_with fail
      refine HT.out.mono ?_
      rintro e w9 ⟨rfl, hb9⟩
      have hX9 := (hb9.block w.heap.size (Array.getElem?_eq_some_iff.1 HX4.out).1).trans HX4.out
      obtain ⟨x0, x1, x2, x3, x4, x5⟩ := six_at hX9
      have z2 := fun j => frozen_of_row w9 _ j _ _ hX9
      have lX9 := (Array.getElem?_eq_some_iff.1 hX9).1
      have HX9 := Lib.hid hX9
      have HB9 := Lib.hid ((HB3.out.trans (but_below (but_mono HS4.out.2 HB3.out.size) (by omega))).trans (hb9.mono ((HB3.out.trans (but_below (but_mono HS4.out.2 HB3.out.size) (by omega))).size)))
      clear hb9 hX9
      go_wp2_with fail
      have hR9 := set6 (b0 := .int .i64 0) (b1 := .bool false) (b2 := .int .i64 0) (b3 := .string ⟨#[]⟩) (b4 := .slice none 0 0) (b5 := .slice none 0 0) HX9.out
      have hS9 := below6 (m := w.heap.size) HB9.out (Nat.le_refl _) (.int .i64 0) (.bool false) (.int .i64 0) (.string ⟨#[]⟩) (.slice none 0 0) (.slice none 0 0)
      generalize ((((((w9.setCell ⟨w.heap.size, 0, none⟩ (.int .i64 0)).setCell ⟨w.heap.size, 1, none⟩ (.bool false)).setCell ⟨w.heap.size, 2, none⟩ (.int .i64 0)).setCell ⟨w.heap.size, 3, none⟩ (.string ⟨#[]⟩)).setCell ⟨w.heap.size, 4, none⟩ (.slice none 0 0)).setCell ⟨w.heap.size, 5, none⟩ (.slice none 0 0)) = W9 at *
      obtain ⟨v0, v1, v2, v3, v4, v5⟩ := six_at hR9
      exact bodyPost_ret (v := .tuple #[zeroJ, .int .i64 150]) (by simp [zeroJ, results, Tryz.results10, go_sem, v0, v1, v2, v3, v4, v5]) rfl ⟨hS9, by rw [HE9.out]⟩
    · have HE9 : Hid (E = .error c) := Lib.hid (by rw [← HE.out, hv])
      have HF := Lib.hid (fail_any a (w.heap.size + 1) 150 (skipL q) 0 (errV a c) w3 HR3.out (.err a c) HW3.out)
      clear hq hv
      go_wp2_with fail
      refine HF.out.mono ?_
      rintro e w4 ⟨rfl, hs⟩
      have HS4 := Lib.hid hs
      have c2 := hs.1.c2
      have lR4 := hs.1.lt
      rw [failV_err] at c2
      unfold errV at c2
      clear hs
      have HX4 := Lib.hid ((HS4.out.2.block w.heap.size lX3 (by omega)).trans HX3.out)
      have HT := Lib.hid (told_err a c w4 (HW3.out.but HS4.out.2 HW3.out.low hR1))
      unfold errV at HT
      go_wp2_with fail
      refine HT.out.mono ?_
      rintro e w9 ⟨rfl, hb9⟩
      have hX9 := (hb9.block w.heap.size (Array.getElem?_eq_some_iff.1 HX4.out).1).trans HX4.out
      obtain ⟨x0, x1, x2, x3, x4, x5⟩ := six_at hX9
      have z2 := fun j => frozen_of_row w9 _ j _ _ hX9
      have lX9 := (Array.getElem?_eq_some_iff.1 hX9).1
      have HX9 := Lib.hid hX9
      have HB9 := Lib.hid ((HB3.out.trans (but_below (but_mono HS4.out.2 HB3.out.size) (by omega))).trans (hb9.mono ((HB3.out.trans (but_below (but_mono HS4.out.2 HB3.out.size) (by omega))).size)))
      clear hb9 hX9
      go_wp2_with fail
      have hR9 := set6 (b0 := .int .i64 0) (b1 := .bool false) (b2 := .int .i64 0) (b3 := .string ⟨#[]⟩) (b4 := .slice none 0 0) (b5 := .slice none 0 0) HX9.out
      have hS9 := below6 (m := w.heap.size) HB9.out (Nat.le_refl _) (.int .i64 0) (.bool false) (.int .i64 0) (.string ⟨#[]⟩) (.slice none 0 0) (.slice none 0 0)
      generalize ((((((w9.setCell ⟨w.heap.size, 0, none⟩ (.int .i64 0)).setCell ⟨w.heap.size, 1, none⟩ (.bool false)).setCell ⟨w.heap.size, 2, none⟩ (.int .i64 0)).setCell ⟨w.heap.size, 3, none⟩ (.string ⟨#[]⟩)).setCell ⟨w.heap.size, 4, none⟩ (.slice none 0 0)).setCell ⟨w.heap.size, 5, none⟩ (.slice none 0 0)) = W9 at *
      obtain ⟨v0, v1, v2, v3, v4, v5⟩ := six_at hR9
      exact bodyPost_ret (v := .tuple #[zeroJ, .int .i64 c]) (by simp [zeroJ, results, Tryz.results10, go_sem, v0, v1, v2, v3, v4, v5]) rfl ⟨hS9, by rw [HE9.out]⟩
end Go.Proofs.YtamclieppbnpiabGreatDoor
