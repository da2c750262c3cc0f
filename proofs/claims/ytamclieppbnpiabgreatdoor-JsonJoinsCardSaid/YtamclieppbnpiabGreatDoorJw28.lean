/-
  What the rows of this seat list: tables, errors' own handle, three sentinels; a world for the witness.
-/
import Derived.Test.YtamclieppbnpiabGreatDoorProg
import Derived.Test.YtamclieppbnpiabGreatDoorReg
import Derived.WalkKit
import Derived.WalkSpells
import Derived.WalkLawsBesides
import Derived.Lib.Hide
import Derived.Lib.MinMax
import Derived.Deep.QuietTactic
import Derived.BigQuiet
import Derived.OwnWalk
import Derived.Deep.AppendLies
import Derived.KernelRfl
import Derived.Lay
import Derived.Test.YtamclieppbnpiabGreatDoorCards
import Derived.Test.YtamclieppbnpiabGreatDoorTie
import Derived.WalkKit
import Derived.ProofKit
import Derived.OpenShut
import Derived.Deep.DeepHandedRow
import Derived.Lib.LaidTab
import Derived.Lib.LaidU8T
import Derived.Stop.LaidErr
import Derived.LaidLaws
import Derived.LaidHandle
import Derived.MakeChecks
import Derived.RowKitTokens
import Derived.Test.YtamclieppbnpiabGreatDoorJw25
import Derived.Test.YtamclieppbnpiabGreatDoorJw6
import Derived.Test.YtamclieppbnpiabGreatDoorShut
import Derived.Test.YtamclieppbnpiabGreatDoorJw26
set_option linter.unusedSimpArgs false
set_option linter.unusedVariables false
namespace Go.Proofs.YtamclieppbnpiabGreatDoor
open Go.RowKit

theorem l_own : ownKnob Tryz.prog.godebug = none := by kernel_rfl
theorem l_out : laidOutB Tryz.prog = true := by kernel_rfl
theorem l_gPow : Tryz.prog.globalNamed "internal/strconv.uint64pow10" = some 4 := by kernel_rfl
theorem l_g64 : Tryz.prog.globalNamed "math/bits.deBruijn64tab" = some 8 := by kernel_rfl
theorem l_gRange : Tryz.prog.globalNamed "strconv.ErrRange" = some 6 := by kernel_rfl
theorem l_gSyntax : Tryz.prog.globalNamed "strconv.ErrSyntax" = some 5 := by kernel_rfl
theorem l_gJson : Tryz.prog.globalNamed "diaeresis/json.errJson" = some 0 := by kernel_rfl
theorem l_tPow : (Tryz.prog.globals[4]?).map (·.type) = some 152 := by kernel_rfl
theorem l_tRange : (Tryz.prog.globals[6]?).map (·.type) = some 44 := by kernel_rfl
theorem l_tSyntax : (Tryz.prog.globals[5]?).map (·.type) = some 44 := by kernel_rfl
theorem l_tJson : (Tryz.prog.globals[0]?).map (·.type) = some 44 := by kernel_rfl
theorem l_cellsE : Tryz.prog.cellsOf 181 = 1 := by kernel_rfl
theorem l_cellsS : Tryz.prog.cellsOf 9 = 1 := by kernel_rfl
theorem l_cellsU : Tryz.prog.cellsOf 100 = 1 := by kernel_rfl
theorem l_cellsA : Tryz.prog.cellsOf 152 = 20 := by kernel_rfl
theorem l_star : "*" ++ "errors.errorString" = "*errors.errorString" := by decide
theorem l_row (u : TypeId) (h : Tryz.prog.typeName? 3 u = some "*errors.errorString") : u = 179 :=
  typeName_ptr_named (nm := "errors.errorString") (by rw [l_star]; kernel_rfl) (by kernel_rfl) (by decide) u (by rw [l_star]; exact h)
theorem l_et : Tryz.prog.globalNamed "errors.errorType" = some 3 := by kernel_rfl
theorem l_rt : (Tryz.prog.cutTypes.find? (·.1 == "internal/reflectlite.rtype")).map (·.2) = some 117 := by kernel_rfl
theorem l_oneRow : ((List.range Tryz.prog.types.size).filter fun t => Tryz.prog.rowNamed t [101, 114, 114, 111, 114]) = [44] := by kernel_rfl

/-- The rows' list. -/
def laidN : List (String × DataW Unit) := [("math/bits.deBruijn32tab", Rows.laid_math_bits_deBruijn32tab), ("math/bits.deBruijn64tab", Rows.laid_math_bits_deBruijn64tab), ("internal/strconv.uint64pow10", Rows.laid_internal_strconv_uint64pow10), ("unicode/utf8.acceptRanges", Rows.laid_unicode_utf8_acceptRanges), ("errors.errorType", Rows.laid_errors_errorType), ("strconv.ErrRange", Rows.laid_strconv_ErrRange), ("strconv.ErrSyntax", Rows.laid_strconv_ErrSyntax), ("diaeresis/json.errJson", Rows.laid_diaeresis_json_errJson), ("unicode/utf8.first", Rows.laid_unicode_utf8_first)]
def laidOne : List (String × DataW Unit) := [("math/bits.deBruijn32tab", Rows.laid_math_bits_deBruijn32tab), ("math/bits.deBruijn64tab", Rows.laid_math_bits_deBruijn64tab), ("internal/strconv.uint64pow10", Rows.laid_internal_strconv_uint64pow10), ("unicode/utf8.acceptRanges", Rows.laid_unicode_utf8_acceptRanges), ("strconv.ErrRange", Rows.laid_strconv_ErrRange), ("strconv.ErrSyntax", Rows.laid_strconv_ErrSyntax), ("diaeresis/json.errJson", Rows.laid_diaeresis_json_errJson), ("unicode/utf8.first", Rows.laid_unicode_utf8_first)]
theorem l_pow : (Rows.laid_internal_strconv_uint64pow10 : DataW Unit) = Lib.tabData .u64 Lib.pow10Tab := by kernel_rfl
theorem l_first : Rows.laid_unicode_utf8_first = Go.Lib.firstData := by kernel_rfl
theorem l_accept : (Rows.laid_unicode_utf8_acceptRanges : DataW Unit) = Go.Lib.acceptData := by kernel_rfl
theorem l_types : U8Types Tryz.prog Lay_lays197_ren := { Lay_lays197 with }
theorem laidMet_tail {P : Program} {n : String} {d : DataW Unit} {r : List (String × DataW Unit)} {W : World} (h : laidMet P ((n, d) :: r) W) : laidMet P r W := by
  obtain ⟨ps, ⟨g0, t0, cs0, f0, p0, q0, _, _, _, _, hq, e0⟩, hnd, hrows⟩ := h
  subst e0
  exact ⟨q0, hq, (List.nodup_append.1 hnd).2.1, fun b off hm => hrows b off (List.mem_append.2 (.inr hm))⟩
theorem laidMet_lt {P : Program} {n : String} {d : DataW Unit} {r : List (String × DataW Unit)} {W : World} {g : Nat} (h : laidMet P ((n, d) :: r) W) (hg : P.globalNamed n = some g) : g < W.heap.size := by
  obtain ⟨ps, ⟨g0, t0, cs0, f0, p0, q0, k1, k2, k3, _, hq, e0⟩, hnd, hrows⟩ := h
  obtain rfl : g0 = g := Option.some.inj (k1.symm.trans hg)
  rcases Nat.lt_or_ge g0 W.heap.size with h1 | h1
  · exact h1
  · exfalso
    unfold World.var? at k3
    rw [k1] at k3
    simp [Array.getElem?_eq_none h1] at k3
theorem parts_of_laid {W : World} (h : laidMetH Tryz.prog laidN W) : laidMet Tryz.prog laidOne W ∧ handlesMet Tryz.prog [("errors.errorType", Rows.laid_errors_errorType)] W := h
theorem handle_of_laid {W : World} (h : laidMetH Tryz.prog laidN W) : W.cell? ⟨3, 0, none⟩ = some (.iface 117 (.agg #[.pointer (some ⟨10, 44, none⟩)])) := by
  obtain ⟨name, u, ty, e1, e2, e3, e4, e5⟩ := (parts_of_laid h).2 _ (List.mem_singleton.2 rfl)
  have en : name = [101, 114, 114, 111, 114] := (Option.some.inj e1).symm
  subst en
  obtain rfl := Option.some.inj (l_rt.symm.trans e2)
  have hm : ty ∈ (List.range Tryz.prog.types.size).filter fun t => Tryz.prog.rowNamed t [101, 114, 114, 111, 114] := List.mem_filter.2 ⟨List.mem_range.2 e3, e4⟩
  rw [l_oneRow] at hm
  obtain rfl := List.mem_singleton.1 hm
  have hh : typeHandle Tryz.prog 44 = .pointer (some ⟨10, 44, none⟩) := by kernel_rfl
  rw [hh] at e5
  simpa using World.var?_cell l_et e5 0
theorem wj_of_laid {W : World} (h : laidMetH Tryz.prog laidN W) : ∃ a, WJ a W := by
  have h0 := (parts_of_laid h).1
  have h1 := laidMet_tail h0
  have h2 := laidMet_tail h1
  have h4 := laidMet_tail (laidMet_tail h2)
  have h5 := laidMet_tail h4
  have h6 := laidMet_tail h5
  have u1 := Lib.laidMet.reads h0 (n := "unicode/utf8.first") (d := Rows.laid_unicode_utf8_first) (by unfold laidOne; simp)
  have u2 := Lib.laidMet.reads h0 (n := "unicode/utf8.acceptRanges") (d := Rows.laid_unicode_utf8_acceptRanges) (by unfold laidOne; simp)
  rw [l_first] at u1
  rw [l_accept] at u2
  rw [l_pow] at h2
  have hp := Lib.tabIs_of_head l_gPow l_tPow Tryz.underlying152 Tryz.underlying100 l_cellsU l_cellsA h2
  obtain ⟨a4, _, v4, _⟩ := laid_sentinel h4 l_gRange l_tRange Tryz.underlying44 l_row Tryz.underlying179 Tryz.underlying181 rfl rfl Tryz.underlying9 l_cellsE l_cellsS
  obtain ⟨a5, _, v5, _⟩ := laid_sentinel h5 l_gSyntax l_tSyntax Tryz.underlying44 l_row Tryz.underlying179 Tryz.underlying181 rfl rfl Tryz.underlying9 l_cellsE l_cellsS
  obtain ⟨a6, _, v6, _⟩ := laid_sentinel h6 l_gJson l_tJson Tryz.underlying44 l_row Tryz.underlying179 Tryz.underlying181 rfl rfl Tryz.underlying9 l_cellsE l_cellsS
  exact ⟨a6, by simpa using World.var?_cell l_gJson v6 0, handle_of_laid h, ⟨_, _, by simpa using World.var?_cell l_gSyntax v5 0⟩, ⟨_, _, by simpa using World.var?_cell l_gRange v4 0⟩, hp,
    utf8Tabs_of_readsT l_types ⟨by kernel_rfl, by kernel_rfl, by kernel_rfl, by kernel_rfl, by kernel_rfl, by kernel_rfl, by kernel_rfl⟩ u1 u2, laidMet_lt h1 l_g64⟩

def setVar (h : Array Obj) (g : Nat) (v : Value) : Array Obj := h.modify g fun
  | .cells _ t frozen => .cells #[v] t frozen
  | o => o
noncomputable def baseWorld (os : Os) : World :=
  { World.holding Tryz.prog os ⟨#[], #[], []⟩ with heap := setVar (World.holding Tryz.prog os ⟨#[], #[], []⟩).heap 3 (.iface 117 (.agg #[.pointer (some ⟨10, 44, none⟩)])) }
/-- A world for the witness: all laid as their initialisers lay them. -/
noncomputable def laidWorld (os : Os) : World := (baseWorld os).layVars Tryz.prog laidOne
theorem laid_os (os : Os) : (laidWorld os).os = os := World.layVars_os _ _ _
theorem laid_fits (os : Os) : (baseWorld os).layFits Tryz.prog laidOne [] = true := by kernel_rfl
theorem laid_ifaces (os : Os) : (baseWorld os).layIfaces Tryz.prog laidOne (laidWorld os) = true := by kernel_rfl
theorem laid_met (os : Os) (args : Array Value) : laidMet Tryz.prog laidOne ((laidWorld os).forCall (fun _ _ => 0) ⟨#[], args, []⟩).memory := by
  have e1 : (laidOne.filter fun x => (laidOne.map (·.1)).contains x.1) = laidOne := List.filter_eq_self.2 fun x hx => List.contains_iff_mem.2 (List.mem_map.2 ⟨x, hx, rfl⟩)
  have e2 : (laidOne.filter fun x => !(laidOne.map (·.1)).contains x.1) = [] := List.filter_eq_nil_iff.2 fun x hx => by rw [List.contains_iff_mem.2 (List.mem_map.2 ⟨x, hx, rfl⟩)]; simp
  have h : laidMet Tryz.prog laidOne (laidWorld os) := laidMet_layVars (w0 := baseWorld os) (laidOne.map (·.1)) [] (by rw [e1]; rfl) (by rw [e1]; exact laid_fits os) (by rw [e1]; exact laid_ifaces os) (by rw [e2]; exact LaidIn.none)
  exact h.of_heap (by simp [World.memory, World.forCall, Input.heap])
theorem laid_metH (os : Os) (args : Array Value) : laidMetH Tryz.prog laidN ((laidWorld os).forCall (fun _ _ => 0) ⟨#[], args, []⟩).memory :=
  laidMetH_of_parts (laid_met os args) (by kernel_rfl)
end Go.Proofs.YtamclieppbnpiabGreatDoor
/-
  How large values and their texts are. No program here.
-/
namespace Go.Proofs.YtamclieppbnpiabGreatDoor
open Go Go.RowKit Go.Maps

theorem right_ok {M : Nat} (v : Js) : ∀ d, rightJ d v = true → fitJ v → (jtext v).length ≤ M → okJ M v := by
  induction v using Js.ind with
  | _ v ih =>
    intro d h hf hl
    obtain ⟨ho, hi⟩ := right_items h
    obtain ⟨h1, h2⟩ := fitJ_iff.1 hf
    obtain ⟨p1, p2, p3, p4, p5⟩ := right_parts ho
    refine okJ_iff.2 ⟨h1, by omega, by omega, by omega, fun k hk => by have := p4 k hk; omega, fun x hx => ?_⟩
    obtain ⟨e, _, he⟩ := hi x hx
    exact ih x hx e he (h2 x hx) (by have := p5 x hx; omega)
theorem few_parts (d : Nat) (v : Js) : (fewJ d v).kind = v.kind ∧ (fewJ d v).n = v.n ∧ (fewJ d v).s = headS 50 v.s ∧ (fewJ d v).keys = (v.keys.take 6).map (headS 50) ∧ (fewJ d v).l = fewL d v := by
  rw [few_mk]
  exact ⟨rfl, rfl, rfl, rfl, rfl⟩
theorem few_ok : ∀ (d : Nat) (v : Js), okJ maxLen v → okJ 50 (fewJ d v)
  | d, v, h => by
    obtain ⟨h1, h2, h3, h4, h5, h6⟩ := okJ_iff.1 h
    obtain ⟨p1, p2, p3, p4, p5⟩ := few_parts d v
    refine okJ_iff.2 ?_
    rw [p2, p3, p4, p5]
    have hk : ∀ k ∈ (v.keys.take 6).map (headS 50), k.size ≤ 50 := fun k hk => by
      obtain ⟨x, _, rfl⟩ := List.mem_map.1 hk
      exact headS_size 50 x
    refine ⟨h1, headS_size 50 _, by simp; omega, ?_, hk, ?_⟩
    · cases d with
      | zero => exact Nat.zero_le _
      | succ e => show ((v.l.take 6).map (fewJ e)).length ≤ 50; simp; omega
    · cases d with
      | zero => intro x hx; cases hx
      | succ e =>
        intro x hx
        obtain ⟨y, hy, rfl⟩ := List.mem_map.1 (show x ∈ (v.l.take 6).map (fewJ e) from hx)
        exact few_ok e y (h6 y (List.mem_of_mem_take hy))
theorem sep_le {m : Nat} : ∀ (l : List (List UInt8)), (∀ x ∈ l, x.length ≤ m) → (sepL l).length ≤ l.length * (m + 1)
  | [], _ => by simp [sepL]
  | [x], h => by
    have := h x (by simp)
    show x.length ≤ 1 * (m + 1)
    omega
  | x :: y :: l, h => by
    have h1 := h x (by simp)
    have h2 := sep_le (y :: l) (fun z hz => h z (by simp [hz]))
    rw [sep_cons, List.length_append, List.length_cons]
    rw [List.length_cons, Nat.succ_mul]
    omega
theorem pair_le {m : Nat} : ∀ (ks : List ByteArray) (l : List (List UInt8)), (∀ k ∈ ks, k.size ≤ 50) → (∀ x ∈ l, x.length ≤ m) → (pairL ks l).length ≤ l.length ∧ ∀ z ∈ pairL ks l, z.length ≤ m + 303
  | [], l, _, _ => by
    cases l <;> exact ⟨Nat.zero_le _, fun z hz => (by cases hz)⟩
  | k :: ks, [], _, _ => ⟨Nat.zero_le _, fun z hz => (by cases hz)⟩
  | k :: ks, x :: l, hk, hx => by
    obtain ⟨h1, h2⟩ := pair_le ks l (fun y hy => hk y (by simp [hy])) (fun y hy => hx y (by simp [hy]))
    simp only [pairL, List.length_cons]
    refine ⟨by omega, fun z hz => ?_⟩
    rcases List.mem_cons.1 hz with rfl | hz
    · have e1 := (quote_len k.data.toList).2
      have e2 : k.data.toList.length = k.size := Array.length_toList
      have e3 := hk k (by simp)
      have e4 := hx x (by simp)
      simp only [List.length_append, List.length_cons]
      omega
    · exact h2 z hz
def topT : Nat → Nat
  | 0 => 302
  | d + 1 => 6 * (topT d + 304) + 2
theorem topT_succ (d : Nat) : topT (d + 1) = 6 * (topT d + 304) + 2 := rfl
theorem topT_ge (d : Nat) : 302 ≤ topT d := by
  cases d with
  | zero => exact Nat.le_refl _
  | succ e => rw [topT_succ]; omega
theorem text_le {T m : Nat} {k n : Int} {y : Bool} {s : ByteArray} {K : List ByteArray} {L : List Js} (hT : 302 ≤ T) (hi : InI n) (hs : s.size ≤ 50) (hk : ∀ k ∈ K, k.size ≤ 50) (h66 : L.length ≤ 6) (hl : ((∀ x ∈ L.map jtext, x.length ≤ m) ∧ 6 * (m + 304) + 2 ≤ T) ∨ L = []) : (jtext (.mk k y n s K L)).length ≤ T := by
    have hs1 := (quote_len s.data.toList).2
    have hs2 : s.data.toList.length = s.size := Array.length_toList
    have hi := itoa_le hi
    unfold jtext
    rw [jtexts_map]
    split
    · split <;> simp <;> omega
    split
    · omega
    split
    · omega
    rcases hl with ⟨hm, hT2⟩ | rfl
    · split
      · have := sep_le _ hm
        rw [List.length_map] at this
        have h7 : L.length * (m + 1) ≤ 6 * (m + 1) := Nat.mul_le_mul_right _ h66
        simp only [List.length_cons, List.length_append, List.length_nil]
        omega
      split
      · obtain ⟨q1, q2⟩ := pair_le K _ hk hm
        have := sep_le _ q2
        rw [List.length_map] at q1
        have h7 : (pairL K (L.map jtext)).length * (m + 303 + 1) ≤ 6 * (m + 303 + 1) := Nat.mul_le_mul_right _ (by omega)
        simp only [List.length_cons, List.length_append, List.length_nil]
        omega
      · simp
        omega
    · split
      · simp [sepL]; omega
      split
      · cases K <;> (simp [pairL, sepL]; omega)
      · simp; omega
theorem few_text (d : Nat) : ∀ (v : Js), okJ maxLen v → (jtext (fewJ d v)).length ≤ topT d := by
  induction d with
  | zero =>
    intro v h
    obtain ⟨h1, h2, h3, h4, h5, h6⟩ := okJ_iff.1 h
    rw [few_mk]
    refine text_le (m := 0) (Nat.le_refl _) h1 (headS_size 50 v.s) (fun k hk => ?_) (Nat.zero_le _) (.inr rfl)
    obtain ⟨x, _, rfl⟩ := List.mem_map.1 hk
    exact headS_size 50 x
  | succ e ih =>
    intro v h
    obtain ⟨h1, h2, h3, h4, h5, h6⟩ := okJ_iff.1 h
    rw [few_mk, topT_succ]
    have ht := topT_ge e
    generalize topT e = T at *
    refine text_le (m := T) (by omega) h1 (headS_size 50 v.s) (fun k hk => ?_) (by show ((v.l.take 6).map (fewJ e)).length ≤ 6; simp; omega) (.inl ⟨fun x hx => ?_, Nat.le_refl _⟩)
    · obtain ⟨x, _, rfl⟩ := List.mem_map.1 hk
      exact headS_size 50 x
    · obtain ⟨y, hy, rfl⟩ := List.mem_map.1 hx
      obtain ⟨z, hz, rfl⟩ := List.mem_map.1 (show y ∈ (v.l.take 6).map (fewJ e) from hy)
      exact ih z (h6 z (List.mem_of_mem_take hz))
theorem few_text4 {v : Js} (h : okJ maxLen v) : (jtext (fewJ 4 v)).length ≤ 864326 := by
  have := few_text 4 v h
  rw [show topT 4 = 864326 by decide] at this
  exact this
theorem fewJ_fit {v : Js} (d : Nat) (h : okJ maxLen v) : fitJ (fewJ d v) := okJ.fit _ (few_ok d v h)
end Go.Proofs.YtamclieppbnpiabGreatDoor
