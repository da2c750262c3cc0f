/-
  Values: by the program.
-/
import Derived.Test.YtebejlnegalokaaGreatDoorProg
import Derived.Test.YtebejlnegalokaaGreatDoorReg
import Derived.WalkKit
import Derived.WalkSpells
import Derived.WalkLawsBesides
import Derived.Lib.Hide
import Derived.Lib.MinMax
import Derived.Deep.QuietTactic
import Derived.BigQuiet
import Derived.OwnWalk
import Derived.Deep.AppendLies
import Derived.KernelRfl
import Derived.Test.YtebejlnegalokaaGreatDoorPw4
set_option linter.unusedSimpArgs false
set_option linter.unusedVariables false
namespace Go.Proofs.YtebejlnegalokaaGreatDoor
open Go Go.RowKit Go.Maps
open Gz (Tok HoldsT gPar gCur)
open Nz (Nd rightN joinN HoldsN IntN HoldsTs errNodeAt)

/-- A method of the parser's, on up to n tokens, gives what r says. -/
def KOk (a b : Addr) (n : Nat) (f : FuncId) (r : List Bd → Bool → List Tok → PR) : Prop :=
  ∀ (pb : Nat) (A : Option Addr) (c' : Nat) (env : List Bd) (inner : Bool) (l : List Tok) (TA : Option Addr) (d : Nat) (w : World), l.length ≤ n → env.length + 100 * l.length ≤ 50000 → OkL l → l.length ≤ d → HoldsT w TA l → Par w pb A c' env inner → WOk a b w →
    Calls Tryz.prog f #[.pointer (some ⟨pb, 0, none⟩), .slice TA l.length d] w (GivesP (r env inner l) b · w ·)

/-- A tree, one's own, in a later world. -/
theorem has_low {w0 w w' : World} {v : Value} {L : List (Nd × Value)} (h : Nz.HasN w' w.heap.size v L) (hb : w0.heap.size ≤ w.heap.size) : Nz.HasN w' w0.heap.size v L := h.mono hb
theorem GivesP.low {r : PR} {b : Addr} {e : Ending} {w0 w w' : World} (h : GivesP r b e w w') (hb : Below w0.heap.size w0 w) : GivesP r b e w0 w' := by
  obtain ⟨h1, h2⟩ := h
  refine ⟨hb.trans (h1.mono hb.size), ?_⟩
  cases r with
  | error x => exact h2
  | ok t =>
    obtain ⟨B, d, L, he, hN, hM, hO⟩ := h2
    exact ⟨B, d, L, he, hN.mono hb.size, hM, hO⟩
/-- The two ways. -/
theorem GivesP.ways {r : PR} {b : Addr} {e : Ending} {w w' : World} (h : GivesP r b e w w') : (∃ t B d L, r = .ok t ∧ e = .returned (.tuple #[.slice B t.length d, .nilIface]) ∧ Nz.HasN w' w.heap.size (.slice B t.length d) L ∧ L.map Prod.fst = t ∧ OkT t) ∨ (∃ x, r = .error x ∧ e = .returned (.tuple #[.slice none 0 0, .iface (errT x) (errX b x)])) := by
  obtain ⟨_, h2⟩ := h
  cases r with
  | error x => exact .inr ⟨x, rfl, h2⟩
  | ok t =>
    obtain ⟨B, d, L, he, hN, hM, hO⟩ := h2
    exact .inl ⟨t, B, d, L, rfl, he, hN, hM, hO⟩
/-- One tree in a slice of its own. -/
theorem one_holds {w : World} {g : Nat} {t : List Nd} {B : Option Addr} {d : Nat} (hg : w.heap[g]? = some (.cells #[.slice B t.length d] 23 (0, 0))) (h : HoldsN w B t) (hd : t.length ≤ d) : HoldsTs w (some ⟨g, 0, none⟩) [t] := by
  intro k u hu
  cases k with
  | zero =>
    cases hu
    exact ⟨g, 0, rfl, B, d, by simp [World.cell?, hg], h, hd⟩
  | succ k => simp at hu

set_option maxRecDepth 100000 in
set_option maxHeartbeats 8000000 in
theorem value_p (a b : Addr) (p : Pz) (pb : Nat) (A : Option Addr) (c' : Nat) (env : List Bd) (inner : Bool) (b0 off c : Nat) (l : List Tok) (w : World) (HX : KOk a b (l.length - 1) 32 p.expr)
    (hv : ∀ x, l[0]? = some x → x.kind ≠ 3 → x.kind ≠ 4 → x.kind ≠ 9 → x.kind ≠ 5 → 2 ≤ l.length) (hl : OkL l) (h1 : 1 ≤ l.length) (hn : env.length + 100 * l.length ≤ 50000) (hc : l.length ≤ c) (hh : HoldsT w (some ⟨b0, off, none⟩) l) (hp : Par w pb A c' env inner) (hw : WOk a b w) :
    Calls Tryz.prog 53 #[.pointer (some ⟨pb, 0, none⟩), .slice (some ⟨b0, off, none⟩) l.length c] w (GivesP (valP p env inner l) b · w ·) := by
  have hlen := hl.len
  have gx := List.getElem?_eq_getElem (l := l) (i := 0) (by omega)
  obtain ⟨b', off', e, c0, c1, c2⟩ := hh 0 _ gx
  cases e
  simp only [Nat.zero_mul, Nat.add_zero] at c0 c1 c2
  have hsx := hl.small _ (List.getElem_mem (show 0 < l.length by omega))
  have hvx := hv _ gx
  obtain ⟨R, hR⟩ : ∃ R, R = valP p env inner l := ⟨_, rfl⟩
  rw [← hR]
  have hR2 : R = (let x := l[0]; if x.kind = 3 then joinP 1 (joinG (l.map (·.glyph))) []
    else if x.kind = 4 then joinP 2 x.text []
    else if x.kind = 9 then joinP 4 x.glyph []
    else if x.kind = 5 then joinP 3 x.text []
    else match p.expr env inner (innerL l) with
      | .error e => .error e
      | .ok t => joinP 5 noB [t]) := by
    rw [hR]
    cases l with
    | nil => simp at h1
    | cons x l => rfl
  simp only at hR2
  have HR := Lib.hid hR2
  have HJ := Lib.hid (fun (k : Int) (t : ByteArray) (W : World) (h1 : (Lit.int .i64 k).wf = true) (h2 : t.size ≤ 1000000) (h : WOk a b W) => join_p k t [] none 0 a b W h1 h2 (by simp) (fun k x hk => by simp at hk) (fun t ht => by simp at ht) h)
  have hbA := below_new w (.cells #[.int .i64 (l[0]).kind, .string (l[0]).text, .string (l[0]).glyph] 37)
  have HBA := Lib.hid hbA
  have HH := Lib.hid hh
  have HP := Lib.hid hp
  have HW := Lib.hid hw
  have k0 : (0 : Int) < (l.length : Int) := by omega
  have HL := Lib.hid hl
  clear hR hR2 gx hbA hh hp hw hv hl
  generalize l[0] = x at *
  have HWA := Lib.hid (HW.out.below HBA.out)
  simp only [List.length_nil] at HJ
  by_cases h3 : x.kind = 3
  · have e9 := HR.out
    rw [if_pos h3] at e9
    have HR1 := Lib.hid e9
    rw [h3] at c0 HBA HWA
    clear e9 HR HX hvx hsx
    have hA := heap_alloc_new w (.cells #[.int .i64 3, .string x.text, .string x.glyph] 37)
    go_enter Tryz.func53, Tryz.ntmps53
    go_wp2_with fail
    go_loopw [7, 21] (fun gv iv wr => ∃ (k : Nat), iv = .int .i64 k ∧ k ≤ l.length ∧ Hid (wr.ownsRow w.heap.size sK 1 gv k (strCells ((l.take k).map (·.glyph)))) ∧ Hid (Below w.heap.size w wr)) (fun _ iv _ => l.length - (intOf iv).toNat)
    case atStart => exact ⟨0, rfl, Nat.zero_le _, Lib.hid (World.ownsRow_nil _ _ _ _), HBA⟩
    case round =>
      obtain ⟨k, rfl, hk, HO, HB⟩ := hrel
      have hsz := HB.out.size
      by_cases hlt : k < l.length
      · have i1 : (k : Int) < (l.length : Int) := by omega
        have i0 : (0 : Int) ≤ (k : Int) := by omega
        have gk := List.getElem?_eq_getElem hlt
        obtain ⟨b', off', e, d0, d1, d2⟩ := (HH.out.below HB.out) k _ gk
        cases e
        have hF : (l.take k).map (·.glyph) ++ [(l[k]).glyph] = (l.take (k + 1)).map (·.glyph) := by
          rw [List.take_succ_eq_append_getElem hlt, List.map_append]
          rfl
        have hlk : ((l.take k).map (·.glyph)).length = k := by rw [List.length_map, List.length_take]; omega
        generalize l[k] = y at *
        have hb1 := (Below.refl wr.heap.size wr).alloc (Nat.le_refl _) (.cells #[.int .i64 y.kind, .string y.text, .string y.glyph] 37)
        have hb2 := hb1.alloc hb1.size (.cells #[.string y.glyph] sK)
        have hg := heap_alloc_new (wr.alloc (.cells #[.int .i64 y.kind, .string y.text, .string y.glyph] 37)) (.cells #[.string y.glyph] sK)
        have hO := Gz.own_below HO.out hb2
        rw [← hlk] at hO
        simp only [World.size_alloc] at hg
        obtain ⟨A9, c9, w9, hrun, hN9, hgr9⟩ := push_str (W := (wr.alloc (.cells #[.int .i64 y.kind, .string y.text, .string y.glyph] 37)).alloc (.cells #[.string y.glyph] sK)) hg (by rw [hlk]; rw [hlk] at hO; exact hO) (by omega) (by simp; omega)
        rw [hF, hlk] at hN9
        rw [hlk] at hrun
        have HN9 := Lib.hid (show w9.ownsRow w.heap.size sK 1 (.slice A9 (k + 1) c9) (k + 1) (strCells ((l.take (k + 1)).map (·.glyph))) by
          have e : ((l.take (k + 1)).map (·.glyph)).length = k + 1 := by rw [List.length_map, List.length_take]; omega
          rw [e] at hN9
          exact hN9)
        have HB9 := Lib.hid ((HB.out.trans (hb2.mono hsz)).grown hgr9 (by simp; omega) (fun j e => Gz.ownBlock_ge HO.out j e))
        clear hO hb1 hb2 hg hF hN9 hgr9 hlk gk HB HO
        go_wp2_with (at_builtin; go_must (refine Nz.wpList_append_run rfl _ _ 112 112 rfl rfl rfl hrun ?_))
        go_roundw
        case rel => exact ⟨k + 1, by go_num, by omega, HN9, HB9⟩
        case measure => simp [intOf]; omega
      · obtain rfl : k = l.length := by omega
        have i1 : ¬ (l.length : Int) < (l.length : Int) := by omega
        obtain ⟨A2, c2', rfl, hcl, hrow⟩ := own_form HO.out
        obtain ⟨g, rfl, hg0, hgl, hcells⟩ := hrow (by omega)
        rw [List.take_length] at hcells
        have hsmall : ∀ y ∈ l.map (·.glyph), y.size ≤ 1000 := fun y hy => by
          obtain ⟨z, hz, rfl⟩ := List.mem_map.1 hy
          exact (HL.out.small z hz).2
        have hjs := joinG_size (l.map (·.glyph)) 1000 hsmall
        have hji := joinG_is (l.map (·.glyph))
        have hjl : (joinG (l.map (·.glyph))).data.toList.length = (joinG (l.map (·.glyph))).size := by rw [Array.length_toList]; rfl
        have hml : (l.map (·.glyph)).length = l.length := List.length_map _
        rw [hml] at hjs
        have hjb : (joinG (l.map (·.glyph))).size ≤ 1000000 := by
          have : l.length * 1001 ≤ 100 * 1001 := Nat.mul_le_mul_right _ hlen
          omega
        have HS := Lib.hid (Lay_strings_Join g 0 c2' (l.map (·.glyph)) ⟨#[32]⟩ wr (fun j y hy => hcells j _ (by unfold strCells; rw [List.getElem?_map, hy]; rfl)) hgl (by omega) (by omega) (by
          have e : (⟨#[32]⟩ : ByteArray).data.toList = [32] := rfl
          rw [e, ← hji, hjl]
          omega))
        have hJ : (⟨(Lib.join ((l.map (·.glyph)).map (·.data.toList)) (⟨#[32]⟩ : ByteArray).data.toList).toArray⟩ : ByteArray) = joinG (l.map (·.glyph)) := by
          have e : (⟨#[32]⟩ : ByteArray).data.toList = [32] := rfl
          rw [e, ← hji]
        rw [hJ, hml] at HS
        have HJ2 := Lib.hid (fun W (h : WOk a b W) => HJ.out 1 (joinG (l.map (·.glyph))) W (by decide) hjb h)
        rw [← HR1.out] at HJ2
        have HWr := Lib.hid (HW.out.below HB.out)
        clear hcells hsmall hjs hji hjl hml hjb hJ HR1 HO hrow
        generalize joinG (l.map (·.glyph)) = jt at *
        go_wp2_with fail
        refine HS.out.mono ?_
        rintro e w1 ⟨rfl, hb⟩
        have HC := Lib.hid (HJ2.out w1 (HWr.out.below hb))
        have HB := Lib.hid (HB.out.trans (hb.mono HB.out.size))
        clear hb
        go_wp2_with fail
        refine HC.out.mono ?_
        intro e w2 hG
        have HG := Lib.hid (hG.low HB.out)
        rcases hG.ways with ⟨t, B, d, L, -, rfl, -⟩ | ⟨y, -, rfl⟩
        · clear hG
          go_wp2_with fail
          go_ret2
          exact HG.out
        · clear hG
          go_wp2_with fail
          go_ret2
          exact HG.out
  · by_cases h4 : x.kind = 4
    · have e9 := HR.out
      rw [if_neg h3, if_pos h4] at e9
      have HC := Lib.hid (HJ.out 2 x.text _ (by decide) (by omega) HWA.out)
      have HB := HBA
      rw [← e9] at HC
      rw [h4] at c0 HC HB
      clear e9 HR HX HJ HWA HBA
      go_enter Tryz.func53, Tryz.ntmps53
      go_wp2_with fail
      refine HC.out.mono ?_
      intro e w2 hG
      have HG := Lib.hid (hG.low HB.out)
      rcases hG.ways with ⟨t, B, d, L, -, rfl, -⟩ | ⟨y, -, rfl⟩
      · clear hG
        go_wp2_with fail
        go_ret2
        exact HG.out
      · clear hG
        go_wp2_with fail
        go_ret2
        exact HG.out
    · by_cases h9 : x.kind = 9
      · have e9 := HR.out
        rw [if_neg h3, if_neg h4, if_pos h9] at e9
        have HC := Lib.hid (HJ.out 4 x.glyph _ (by decide) (by omega) HWA.out)
        have HB := HBA
        rw [← e9] at HC
        rw [h9] at c0 HC HB
        clear e9 HR HX HJ HWA HBA
        go_enter Tryz.func53, Tryz.ntmps53
        go_wp2_with fail
        refine HC.out.mono ?_
        intro e w2 hG
        have HG := Lib.hid (hG.low HB.out)
        rcases hG.ways with ⟨t, B, d, L, -, rfl, -⟩ | ⟨y, -, rfl⟩
        · clear hG
          go_wp2_with fail
          go_ret2
          exact HG.out
        · clear hG
          go_wp2_with fail
          go_ret2
          exact HG.out
      · by_cases h5 : x.kind = 5
        · have e9 := HR.out
          rw [if_neg h3, if_neg h4, if_neg h9, if_pos h5] at e9
          have HC := Lib.hid (HJ.out 3 x.text _ (by decide) (by omega) HWA.out)
          have HB := HBA
          rw [← e9] at HC
          rw [h5] at c0 HC HB
          clear e9 HR HX HJ HWA HBA
          go_enter Tryz.func53, Tryz.ntmps53
          go_wp2_with fail
          refine HC.out.mono ?_
          intro e w2 hG
          have HG := Lib.hid (hG.low HB.out)
          rcases hG.ways with ⟨t, B, d, L, -, rfl, -⟩ | ⟨y, -, rfl⟩
          · clear hG
            go_wp2_with fail
            go_ret2
            exact HG.out
          · clear hG
            go_wp2_with fail
            go_ret2
            exact HG.out
        · have h2 := hvx h3 h4 h9 h5
          have e9 := HR.out
          rw [if_neg h3, if_neg h4, if_neg h9, if_neg h5] at e9
          have HR1 := Lib.hid e9
          have hil := innerL_len l
          have HIn := Lib.hid (inside_any (some ⟨b0, off, none⟩) c l _ HL.out h2 hc (HH.out.below HBA.out))
          have HEx := Lib.hid (fun B W (h : HoldsT W B (innerL l)) (q : Par W pb A c' env inner) (v : WOk a b W) => HX pb A c' env inner (innerL l) B (innerL l).length W (by omega) (by omega) HL.out.inner (Nat.le_refl _) h q v)
          have HPA := Lib.hid (HP.out.below HBA.out)
          have q3 : (x.kind == 3) = false := by simp [h3]
          have q4 : (x.kind == 4) = false := by simp [h4]
          have q9 : (x.kind == 9) = false := by simp [h9]
          have q5 : (x.kind == 5) = false := by simp [h5]
          clear e9 HR HX hil
          generalize p.expr env inner (innerL l) = r at *
          generalize (innerL l).length = m at *
          go_enter Tryz.func53, Tryz.ntmps53
          go_wp2_with fail
          refine HIn.out.mono ?_
          rintro e w1 ⟨rfl, B, rfl, hI⟩
          have HI := Lib.hid hI
          clear hI HIn
          go_wp2_with fail
          refine (HEx.out B _ HI.out HPA.out HWA.out).mono ?_
          intro e w2 hG
          have HB2 := Lib.hid (HBA.out.trans (hG.1.mono HBA.out.size))
          have HW2 := Lib.hid (HWA.out.below hG.1)
          rcases hG.ways with ⟨t, B2, d2, L, rfl, rfl, hN, hM, hO⟩ | ⟨y, rfl, rfl⟩
          · obtain ⟨hT, hd⟩ := has_holds hN hM
            have hbK := below_new w2 (.cells #[.slice B2 t.length d2] 23)
            have HC := Lib.hid (join_p 5 noB [t] (some ⟨w2.heap.size, 0, none⟩) 1 a b _ (by decide) (by decide) (by simp) (one_holds (heap_alloc_new w2 (.cells #[.slice B2 t.length d2] 23)) (hT.below hbK) hd) (fun u hu => by cases List.mem_singleton.1 hu; exact hO) (HW2.out.below hbK))
            have HB := Lib.hid (HB2.out.trans (hbK.mono HB2.out.size))
            have e9 : R = joinP 5 noB [t] := HR1.out
            rw [← e9] at HC
            unfold noB at HC
            clear hG hN hM hO hT hbK e9 HR1
            go_wp2_with fail
            refine HC.out.mono ?_
            intro e w2 hG
            have HG := Lib.hid (hG.low HB.out)
            rcases hG.ways with ⟨t, B, d, L, -, rfl, -⟩ | ⟨y, -, rfl⟩
            · clear hG
              go_wp2_with fail
              go_ret2
              exact HG.out
            · clear hG
              go_wp2_with fail
              go_ret2
              exact HG.out
          · have e9 : R = .error y := HR1.out
            clear hG
            go_wp2_with fail
            go_ret2
            rw [e9]
            exact ⟨HB2.out, rfl⟩
end Go.Proofs.YtebejlnegalokaaGreatDoor
/-
  Functions applied, expressions: by the program.
-/
namespace Go.Proofs.YtebejlnegalokaaGreatDoor
open Go Go.RowKit Go.Maps
open Gz (Tok HoldsT gPar gCur)
open Nz (Nd rightN joinN HoldsN IntN HoldsTs errNodeAt)

/-! ### Plainly -/
theorem numsGo_first {l : List Tok} : ∀ {n : Nat}, n ≤ l.length → numsGo l n < n → ∃ x, l[numsGo l n]? = some x ∧ x.kind = 3
  | 0, _, h => by omega
  | n + 1, hn, h => by
    have g := List.getElem?_eq_getElem (l := l) (i := n) (by omega)
    by_cases h3 : (l[n]'(by omega)).kind = 3
    · rw [numsGo_num g h3] at h ⊢
      by_cases h4 : numsGo l n < n
      · exact numsGo_first (by omega) h4
      · have e : numsGo l n = n := by have := numsGo_le l n; omega
        rw [e]
        exact ⟨_, g, h3⟩
    · rw [numsGo_stop g h3] at h
      omega
theorem valAt_parts {env : List Bd} {inner : Bool} {l : List Tok} {a : Nat} (h : valAt env inner l = some a) :
    a < l.length ∧ ∀ x, (l.drop a)[0]? = some x → x.kind ≠ 3 → x.kind ≠ 4 → x.kind ≠ 9 → x.kind ≠ 5 → 2 ≤ (l.drop a).length := by
  unfold valAt at h
  cases hx : l[l.length - 1]? with
  | none => rw [hx] at h; cases h
  | some x =>
    rw [hx] at h
    simp only at h
    have hlt := (List.getElem?_eq_some_iff.1 hx).1
    have hlast : ∀ y, (l.drop (l.length - 1))[0]? = some y → y = x := fun y hy => by
      rw [List.getElem?_drop, Nat.add_zero, hx] at hy
      cases hy
      rfl
    by_cases h3 : x.kind = 3
    · rw [if_pos h3] at h
      cases h
      have hn := numsGo_lt hx h3
      rw [show l.length - 1 + 1 = l.length by omega] at hn
      obtain ⟨y, hy, hy3⟩ := numsGo_first (Nat.le_refl l.length) (by omega)
      refine ⟨by omega, fun z hz n3 => ?_⟩
      rw [List.getElem?_drop, Nat.add_zero, hy] at hz
      cases hz
      exact absurd hy3 n3
    · rw [if_neg h3] at h
      by_cases h4 : x.kind = 4
      · rw [if_pos h4] at h
        cases h
        exact ⟨by omega, fun z hz _ n4 => absurd (by rw [hlast z hz]; exact h4) n4⟩
      · rw [if_neg h4] at h
        by_cases h9 : x.kind = 9
        · rw [if_pos h9] at h
          split at h
          · cases h
            exact ⟨by omega, fun z hz _ _ n9 => absurd (by rw [hlast z hz]; exact h9) n9⟩
          · cases h
        · rw [if_neg h9] at h
          by_cases h5 : x.kind = 5
          · rw [if_pos h5] at h
            split at h
            · cases h
            · cases h
              exact ⟨by omega, fun z hz _ _ _ n5 => absurd (by rw [hlast z hz]; exact h5) n5⟩
          · rw [if_neg h5] at h
            by_cases h8 : x.kind = 8
            · rw [if_pos h8] at h
              split at h
              · rename_i hg
                cases h
                simp only [Bool.and_eq_true] at hg
                exact ⟨lastAt_lt (by omega), fun _ _ _ _ _ _ => isGrp_len hg.1⟩
              · cases h
            · rw [if_neg h8] at h
              cases h
theorem valAt_nil (env : List Bd) (inner : Bool) : valAt env inner [] = none := rfl
theorem funAt_lt {env : List Bd} {l : List Tok} {a : Nat} (h : funAt env l = some a) (h1 : 1 ≤ l.length) : a < l.length := by
  unfold funAt at h
  simp only at h
  have hc := cutN_le l
  have hp := cutN_pos h1
  have hlb : (l.take (cutN l)).length = cutN l := by rw [List.length_take]; omega
  have := lastAt_lt (l := l.take (cutN l)) (by omega)
  split at h
  · cases h
    omega
  · cases h
theorem KOk.mono {a b : Addr} {n m : Nat} {f : FuncId} {r : List Bd → Bool → List Tok → PR} (h : KOk a b n f r) (hm : m ≤ n) : KOk a b m f r :=
  fun pb A c' env inner l TA d w h1 => h pb A c' env inner l TA d w (Nat.le_trans h1 hm)
/-- Two trees, three trees, in a slice of one's own. -/
theorem two_holds {w : World} {g : Nat} {t u : List Nd} {B D : Option Addr} {d e : Nat} (hg : w.heap[g]? = some (.cells #[.slice B t.length d, .slice D u.length e] 23 (0, 0))) (h : HoldsN w B t) (hd : t.length ≤ d) (h2 : HoldsN w D u) (he : u.length ≤ e) : HoldsTs w (some ⟨g, 0, none⟩) [t, u] := by
  intro k v hv
  match k, hv with
  | 0, hv => cases hv; exact ⟨g, 0, rfl, B, d, by simp [World.cell?, hg], h, hd⟩
  | 1, hv => cases hv; exact ⟨g, 0, rfl, D, e, by simp [World.cell?, hg], h2, he⟩
  | k + 2, hv => simp at hv
theorem three_holds {w : World} {g : Nat} {t u s : List Nd} {B D E : Option Addr} {d e f : Nat} (hg : w.heap[g]? = some (.cells #[.slice B t.length d, .slice D u.length e, .slice E s.length f] 23 (0, 0))) (h : HoldsN w B t) (hd : t.length ≤ d) (h2 : HoldsN w D u) (he : u.length ≤ e) (h3 : HoldsN w E s) (hf : s.length ≤ f) : HoldsTs w (some ⟨g, 0, none⟩) [t, u, s] := by
  intro k v hv
  match k, hv with
  | 0, hv => cases hv; exact ⟨g, 0, rfl, B, d, by simp [World.cell?, hg], h, hd⟩
  | 1, hv => cases hv; exact ⟨g, 0, rfl, D, e, by simp [World.cell?, hg], h2, he⟩
  | 2, hv => cases hv; exact ⟨g, 0, rfl, E, f, by simp [World.cell?, hg], h3, hf⟩
  | k + 3, hv => simp at hv

theorem lastValue_q (pb : Nat) (A : Option Addr) (c' : Nat) (env : List Bd) (inner : Bool) (b off c : Nat) (l : List Tok) (w : World) (hl : OkL l) (hc : l.length ≤ c) (hh : HoldsT w (some ⟨b, off, none⟩) l) (hp : Par w pb A c' env inner) (hg : Gz.Listed w) :
    Calls Tryz.prog 52 #[.pointer (some ⟨pb, 0, none⟩), .slice (some ⟨b, off, none⟩) l.length c] w (GivesO (valAt env inner l) l b off c · w ·) := by
  cases l with
  | nil =>
    refine (lastValue_nil pb (some ⟨b, off, none⟩) c w).mono ?_
    rintro e w' ⟨rfl, rfl⟩
    exact ⟨Below.refl _ _, rfl⟩
  | cons x l => exact lastValue_p pb A c' env inner b off c (x :: l) w hl (by simp) hc hh hp hg
theorem has_drewN {w : World} {base : Nat} {v : Value} {L : List (Nd × Value)} (h : Nz.HasN w base v L) (n : Nat) : Nz.HasN (w.drewN n) base v L := ⟨h.row, h.kids⟩
/-- What 'apply' gives: a tree of one's own and what is ahead; an error. -/
def GivesA (r : Except Bool (List Nd × List Tok)) (b0 off : Nat) (l : List Tok) (b : Addr) (e : Ending) (w w' : World) : Prop := Below w.heap.size w w' ∧ (match r with
  | .ok (t, l') => ∃ B d L c2, e = .returned (.tuple #[.slice B t.length d, .slice (some ⟨b0, off, none⟩) l'.length c2, .nilIface]) ∧ Nz.HasN w' w.heap.size (.slice B t.length d) L ∧ L.map Prod.fst = t ∧ OkT t ∧ l' = l.take l'.length ∧ l'.length < l.length ∧ l'.length ≤ c2
  | .error x => ∃ u v, e = .returned (.tuple #[u, v, .iface (errT x) (errX b x)]))

set_option maxRecDepth 100000 in
set_option maxHeartbeats 8000000 in
theorem apply_p (a b : Addr) (p : Pz) (pb : Nat) (A : Option Addr) (c' : Nat) (env : List Bd) (inner : Bool) (b0 off c : Nat) (l : List Tok) (Br : Option Addr) (dr : Nat) (right : List Nd) (w : World)
    (HX : KOk a b (l.length - 1) 32 p.expr) (HFn : KOk a b l.length 33 p.fn)
    (hl : OkL l) (h1 : 1 ≤ l.length) (hn : env.length + 100 * l.length ≤ 50000) (hc : l.length ≤ c) (hh : HoldsT w (some ⟨b0, off, none⟩) l) (hp : Par w pb A c' env inner) (hw : WOk a b w) (hr : HoldsN w Br right) (hrd : right.length ≤ dr) (hro : OkT right) :
    Calls Tryz.prog 54 #[.pointer (some ⟨pb, 0, none⟩), .slice (some ⟨b0, off, none⟩) l.length c, .slice Br right.length dr] w (GivesA (applyP p env inner l right) b0 off l b · w ·) := by
  have hlen := hl.len
  have HL := Lib.hid (lastFun_p pb A c' env inner b0 off c l w hl h1 hc hh hp hw.listed)
  have HLt := Lib.hid (fun n (h : funAt env l = some n) => funAt_lt h h1)
  obtain ⟨R, hR⟩ : ∃ R, R = applyP p env inner l right := ⟨_, rfl⟩
  rw [← hR]
  unfold applyP at hR
  have HH := Lib.hid hh
  have HP := Lib.hid hp
  have HW := Lib.hid hw
  have HOl := Lib.hid hl
  have HRt := Lib.hid hr
  have HRo := Lib.hid hro
  have kc : ¬ c = 0 := by omega
  have hes := fun (W : World) (x : Option Addr) (m k : Nat) => Lib.run_eql_slice_nil W 34 37 x m k 0 0 Tryz.underlying34
  cases hf : funAt env l with
  | none =>
    rw [hf] at hR HL
    subst hR
    clear hh hp hw hl hr hro HX HFn HLt hf
    go_enter Tryz.func54, Tryz.ntmps54
    go_wp2_with fail
    refine HL.out.mono ?_
    rintro e w1 ⟨hb, rfl⟩
    have hs := (HW.out.below hb).syn
    unfold errSyntaxAt at hs
    have HB := Lib.hid hb
    clear hb
    go_wp2_with fail
    go_quiet (fail)
    go_wp2_with fail
    refine bodyPost_ret (by simp [results, Tryz.results54, go_sem]; rfl) rfl ?_
    exact ⟨drewN_below HB.out _, _, _, rfl⟩
  | some n =>
    have hnl := HLt.out n hf
    rw [hf] at hR HL
    simp only at hR
    have hdn : (l.drop n).length = l.length - n := List.length_drop
    have HF := Lib.hid (fun W (h : HoldsT W (some ⟨b0, off, none⟩) l) (q : Par W pb A c' env inner) (v : WOk a b W) => HFn pb A c' env inner (l.drop n) (some ⟨b0, off + n * 3, none⟩) (c - n) W (by omega) (by omega) (hl.drop n) (by omega) (HoldsT.fromS h n) q v)
    rw [hdn] at HF
    generalize p.fn env inner (l.drop n) = rf at *
    obtain ⟨q, hq⟩ : ∃ q, q = l.length - n := ⟨_, rfl⟩
    have e1 : (l.length : Int) - (q : Int) = (n : Int) := by omega
    have e2 : (0 : Int) ≤ (n : Int) := by omega
    have e3 : (n : Int) ≤ (c : Int) := by omega
    have HQ := Lib.hid hq
    rw [← hq] at HF
    simp only [GivesO, ← hq] at HL
    have HR := Lib.hid hR
    clear hh hp hw hl hr hro HFn HLt hf hdn hR hq
    go_enter Tryz.func54, Tryz.ntmps54
    go_wp2_with fail
    refine HL.out.mono ?_
    rintro e w1 ⟨hb, rfl⟩
    have HB1 := Lib.hid hb
    have HH1 := Lib.hid (HH.out.below hb)
    have HP1 := Lib.hid (HP.out.below hb)
    have HW1 := Lib.hid (HW.out.below hb)
    have HR1 := Lib.hid (HRt.out.below hb)
    clear hb HL
    go_wp2_with fail
    refine (HF.out _ HH1.out HP1.out HW1.out).mono ?_
    intro e w2 hG
    have HB2 := Lib.hid (HB1.out.trans (hG.1.mono HB1.out.size))
    have HH2 := Lib.hid (HH1.out.below hG.1)
    have HP2 := Lib.hid (HP1.out.below hG.1)
    have HW2 := Lib.hid (HW1.out.below hG.1)
    have HR2 := Lib.hid (HR1.out.below hG.1)
    rcases hG.ways with ⟨tf, Bf, df, Lf, rfl, rfl, hN, hM, hO⟩ | ⟨y, rfl, rfl⟩
    · obtain ⟨hTf, hdf⟩ := has_holds hN hM
      have HTf := Lib.hid hTf
      have HOf := Lib.hid hO
      have e9 := HR.out
      simp only at e9
      have HRR := Lib.hid e9
      have hln : (l.take n).length = n := by rw [List.length_take]; omega
      have HOn := HOl.out.take n
      have HVl := Lib.hid (lastValue_q pb A c' env inner b0 off c (l.take n) w2 HOn (by omega) (HoldsT.to HH2.out n) HP2.out HW2.out.listed)
      have HVp := Lib.hid (fun v (h : valAt env inner (l.take n) = some v) => valAt_parts h)
      have HTn := Lib.hid (fun W (h : HoldsT W (some ⟨b0, off, none⟩) l) => HoldsT.to h n)
      rw [hln] at HVl
      clear hG hN hM hO hTf HR e9 HF HQ
      generalize hln0 : l.take n = ln at *
      have HOn2 := Lib.hid HOn
      have HTk := Lib.hid hln0.symm
      clear HOn hln0
      go_wp2_with fail
      refine HVl.out.mono ?_
      intro e w3 hv
      have HB3 := Lib.hid (HB2.out.trans (hv.1.mono HB2.out.size))
      have HH3 := Lib.hid (HH2.out.below hv.1)
      have HP3 := Lib.hid (HP2.out.below hv.1)
      have HW3 := Lib.hid (HW2.out.below hv.1)
      have HR3 := Lib.hid (HR2.out.below hv.1)
      have HTf3 := Lib.hid (HTf.out.below hv.1)
      clear HVl HH2 HP2 HW2 HR2 HTf
      cases hva : valAt env inner ln with
      | none =>
        rw [hva] at HRR hv
        obtain ⟨-, rfl⟩ := hv
        have e9 := HRR.out
        simp only at e9
        have HRR2 := Lib.hid e9
        have hbK := below_new w3 (.cells #[.slice Bf tf.length df, .slice Br right.length dr] 23)
        have HC := Lib.hid (join_p 6 noB [tf, right] (some ⟨w3.heap.size, 0, none⟩) 2 a b _ (by decide) (by decide) (by simp) (two_holds (heap_alloc_new w3 (.cells #[.slice Bf tf.length df, .slice Br right.length dr] 23)) (HTf3.out.below hbK) hdf (HR3.out.below hbK) hrd) (fun u hu => by
          rcases List.mem_cons.1 hu with rfl | hu
          · exact HOf.out
          · cases List.mem_singleton.1 hu; exact HRo.out) (HW3.out.below hbK))
        have HB4 := Lib.hid (HB3.out.trans (hbK.mono HB3.out.size))
        unfold noB at HC
        rw [show joinP 6 ⟨#[]⟩ [tf, right] = joinP 6 noB [tf, right] from rfl] at HC
        generalize joinP 6 noB [tf, right] = rj at *
        clear hbK HRR e9 hva
        go_wp2_with fail
        refine HC.out.mono ?_
        intro e w4 hG
        have hG5 := hG.low HB4.out
        rcases hG5.ways with ⟨t, B, d, L, rfl, rfl, hN, hM, hO⟩ | ⟨y, rfl, rfl⟩
        · have e9 := HRR2.out
          simp only at e9
          have HF9 := Lib.hid (show GivesA R b0 off l b (.returned (.tuple #[.slice B t.length d, .slice (some ⟨b0, off, none⟩) n c, .nilIface])) w w4 by
            rw [e9]
            exact ⟨hG5.1, B, d, L, c, by rw [hln], hN, hM, hO, by rw [hln]; exact HTk.out, by omega, by omega⟩)
          clear hG hG5 hN hM hO HRR2 e9
          go_wp2_with fail
          refine bodyPost_ret (by simp [results, Tryz.results54, go_sem]; rfl) rfl ?_
          exact HF9.out
        · have e9 := HRR2.out
          simp only at e9
          have HF9 := Lib.hid (show GivesA R b0 off l b (.returned (.tuple #[.slice none 0 0, .slice (some ⟨b0, off, none⟩) n c, .iface (errT y) (errX b y)])) w w4 by
            rw [e9]
            exact ⟨hG5.1, _, _, rfl⟩)
          clear hG hG5 HRR2 e9
          go_wp2_with fail
          refine bodyPost_ret (by simp [results, Tryz.results54, go_sem]; rfl) rfl ?_
          exact HF9.out
      | some v =>
        have hvp := HVp.out v hva
        rw [hva] at HRR hv
        have e9 := HRR.out
        simp only at e9
        have HRR2 := Lib.hid e9
        obtain ⟨hvl, hvo⟩ := hvp
        have hs : (ln.drop v).length = n - v := by rw [List.length_drop, hln]
        have HC := Lib.hid (value_p a b p pb A c' env inner b0 (off + v * 3) (c - v) (ln.drop v) w3 (HX.mono (by omega)) hvo (HOn2.out.drop v) (by omega) (by omega) (by omega) (HoldsT.fromS (HTn.out w3 HH3.out) v) HP3.out HW3.out)
        obtain ⟨s, hs0⟩ : ∃ s, s = n - v := ⟨_, rfl⟩
        rw [hs, ← hs0] at HC
        obtain ⟨-, rfl⟩ := hv
        have hln2 : ln.length - v = s := by rw [hln, hs0]
        have f1 : (n : Int) - (s : Int) = (v : Int) := by omega
        have f2 : (0 : Int) ≤ (v : Int) := by omega
        have f3 : (v : Int) ≤ (c : Int) := by omega
        have HF4 := Lib.hid (show (ln.take v).length = v by rw [List.length_take]; omega)
        have HF5 := Lib.hid (show ln.take v = l.take v by rw [HTk.out, List.take_take]; congr 1; omega)
        have HF6 := Lib.hid (show v < l.length ∧ v ≤ c by omega)
        rw [hln2]
        clear HRR e9 hva hvo hs hs0 hln2 HX HVp
        generalize valP p env inner (ln.drop v) = rv at *
        go_wp2_with fail
        refine HC.out.mono ?_
        intro e w4 hG
        have HB4 := Lib.hid (HB3.out.trans (hG.1.mono HB3.out.size))
        have HW4 := Lib.hid (HW3.out.below hG.1)
        have HR4 := Lib.hid (HR3.out.below hG.1)
        have HTf4 := Lib.hid (HTf3.out.below hG.1)
        rcases hG.ways with ⟨tx, Bx, dx, Lx, rfl, rfl, hN, hM, hO⟩ | ⟨y, rfl, rfl⟩
        · obtain ⟨hTx, hdx⟩ := has_holds hN hM
          have HTx := Lib.hid hTx
          have HOx := Lib.hid hO
          have e9 := HRR2.out
          simp only at e9
          have HRR3 := Lib.hid e9
          have hbK := below_new w4 (.cells #[.slice Bx tx.length dx, .slice Bf tf.length df, .slice Br right.length dr] 23)
          have HC2 := Lib.hid (join_p 7 noB [tx, tf, right] (some ⟨w4.heap.size, 0, none⟩) 3 a b _ (by decide) (by decide) (by simp) (three_holds (heap_alloc_new w4 (.cells #[.slice Bx tx.length dx, .slice Bf tf.length df, .slice Br right.length dr] 23)) (HTx.out.below hbK) hdx (HTf4.out.below hbK) hdf (HR4.out.below hbK) hrd) (fun u hu => by
            rcases List.mem_cons.1 hu with rfl | hu
            · exact HOx.out
            · rcases List.mem_cons.1 hu with rfl | hu
              · exact HOf.out
              · cases List.mem_singleton.1 hu; exact HRo.out) (HW4.out.below hbK))
          have HB5 := Lib.hid (HB4.out.trans (hbK.mono HB4.out.size))
          unfold noB at HC2
          rw [show joinP 7 ⟨#[]⟩ [tx, tf, right] = joinP 7 noB [tx, tf, right] from rfl] at HC2
          generalize joinP 7 noB [tx, tf, right] = rj at *
          clear hbK hG hN hM hO hTx e9 HRR2
          go_wp2_with fail
          refine HC2.out.mono ?_
          intro e w5 hG
          have hG5 := hG.low HB5.out
          rcases hG5.ways with ⟨t, B, d, L, rfl, rfl, hN, hM, hO⟩ | ⟨y, rfl, rfl⟩
          · have e9 := HRR3.out
            simp only at e9
            have HF9 := Lib.hid (fun nq => show GivesA R b0 off l b (.returned (.tuple #[.slice B t.length d, .slice (some ⟨b0, off, none⟩) v c, .nilIface])) w (w5.drewN nq) by
              rw [e9]
              exact ⟨drewN_below hG5.1 _, B, d, L, c, by rw [HF4.out], has_drewN hN nq, hM, hO, by rw [HF4.out]; exact HF5.out, by rw [HF4.out]; exact HF6.out.1, by rw [HF4.out]; exact HF6.out.2⟩)
            clear hG hG5 hN hM hO HRR3 e9
            go_wp2_with fail
            go_quiet (fail)
            go_wp2_with fail
            refine bodyPost_ret (by simp [results, Tryz.results54, go_sem]; rfl) rfl ?_
            exact HF9.out _
          · have e9 := HRR3.out
            simp only at e9
            have HF9 := Lib.hid (fun nq => show GivesA R b0 off l b (.returned (.tuple #[.slice none 0 0, .slice (some ⟨b0, off, none⟩) v c, .iface (errT y) (errX b y)])) w (w5.drewN nq) by
              rw [e9]
              exact ⟨drewN_below hG5.1 _, _, _, rfl⟩)
            clear hG hG5 HRR3 e9
            go_wp2_with fail
            go_quiet (fail)
            go_wp2_with fail
            refine bodyPost_ret (by simp [results, Tryz.results54, go_sem]; rfl) rfl ?_
            exact HF9.out _
        · have e9 := HRR2.out
          simp only at e9
          subst e9
          clear hG
          go_wp2_with fail
          refine bodyPost_ret (by simp [results, Tryz.results54, go_sem]; rfl) rfl ?_
          exact ⟨HB4.out, _, _, rfl⟩
    · have e9 := HR.out
      simp only at e9
      subst e9
      clear hG
      go_wp2_with fail
      refine bodyPost_ret (by simp [results, Tryz.results54, go_sem]; rfl) rfl ?_
      exact ⟨HB2.out, _, _, rfl⟩
end Go.Proofs.YtebejlnegalokaaGreatDoor
/-
  Expressions: by the program.
-/
namespace Go.Proofs.YtebejlnegalokaaGreatDoor
open Go Go.RowKit Go.Maps
open Gz (Tok HoldsT gPar gCur)
open Nz (Nd rightN joinN HoldsN IntN HoldsTs errNodeAt)

/-- Where the loop stands: a tree so far, what is ahead; or an error. -/
def ExAt (p : Pz) (b : Addr) (env : List Bd) (inner : Bool) (b0 off : Nat) (l : List Tok) (w : World) (R : PR) (lv tv ev : Value) (wr : World) : Prop :=
  (∃ t B d L lc cc k, lv = .slice (some ⟨b0, off, none⟩) lc.length cc ∧ tv = .slice B t.length d ∧ ev = .nilIface ∧ Nz.HasN wr w.heap.size (.slice B t.length d) L ∧ L.map Prod.fst = t ∧ OkT t ∧ lc = l.take lc.length ∧ lc.length ≤ cc ∧ lc.length ≤ k ∧ lc.length < l.length ∧ R = exprGo p env inner k lc t)
  ∨ (∃ x, ev = .iface (errT x) (errX b x) ∧ R = .error x)
def exSize (lv ev : Value) : Nat := match ev with
  | .nilIface => (match lv with | .slice _ n _ => n + 1 | _ => 0)
  | _ => 0

set_option maxRecDepth 100000 in
set_option maxHeartbeats 8000000 in
theorem expr_p (a b : Addr) (p : Pz) (pb : Nat) (A : Option Addr) (c' : Nat) (env : List Bd) (inner : Bool) (TA : Option Addr) (c : Nat) (l : List Tok) (w : World)
    (HX0 : 1 ≤ l.length → KOk a b (l.length - 1) 32 p.expr) (HFn0 : 1 ≤ l.length → KOk a b (l.length - 1) 33 p.fn)
    (hl : OkL l) (hn : env.length + 100 * l.length ≤ 50000) (hc : l.length ≤ c) (hh : HoldsT w TA l) (hp : Par w pb A c' env inner) (hw : WOk a b w) :
    Calls Tryz.prog 32 #[.pointer (some ⟨pb, 0, none⟩), .slice TA l.length c] w (GivesP (exprP p env inner l) b · w ·) := by
  have hes := fun (W : World) (x : Option Addr) (m k : Nat) => Lib.run_eql_slice_nil W 34 37 x m k 0 0 Tryz.underlying34
  obtain ⟨R, hR⟩ : ∃ R, R = exprP p env inner l := ⟨_, rfl⟩
  rw [← hR]
  unfold exprP at hR
  cases hva : valAt env inner l with
  | none =>
    rw [hva] at hR
    subst hR
    have HV : Hid (Calls Tryz.prog 52 #[.pointer (some ⟨pb, 0, none⟩), .slice TA l.length c] w fun e w' => e = .returned (.slice none 0 0) ∧ Below w.heap.size w w') := Lib.hid (by
      cases l with
      | nil =>
        refine (lastValue_nil pb TA c w).mono ?_
        rintro e w' ⟨rfl, rfl⟩
        exact ⟨rfl, Below.refl _ _⟩
      | cons x l =>
        obtain ⟨b0, off, rfl, -⟩ := hh 0 x rfl
        refine (lastValue_q pb A c' env inner b0 off c (x :: l) w hl hc hh hp hw.listed).mono ?_
        intro e w' h
        rw [hva] at h
        exact ⟨h.2, h.1⟩)
    have HW := Lib.hid hw
    clear hh hp hw hl hva HX0 HFn0
    go_enter Tryz.func32, Tryz.ntmps32
    go_wp2_with fail
    refine HV.out.mono ?_
    rintro e w1 ⟨rfl, hb⟩
    have hs := (HW.out.below hb).syn
    unfold errSyntaxAt at hs
    have HB := Lib.hid hb
    clear hb
    go_wp2_with fail
    go_quiet (fail)
    go_wp2_with fail
    go_ret2
    exact ⟨drewN_below HB.out _, rfl⟩
  | some n =>
    rw [hva] at hR
    simp only at hR
    obtain ⟨hnl, hvo⟩ := valAt_parts hva
    have HX := HX0 (by omega)
    have HFn := HFn0 (by omega)
    clear HX0 HFn0
    have gx := List.getElem?_eq_getElem (l := l) (i := 0) (by omega)
    obtain ⟨b0, off, rfl, -⟩ := hh 0 _ gx
    have hlen := hl.len
    have HV := Lib.hid (lastValue_q pb A c' env inner b0 off c l w hl hc hh hp hw.listed)
    rw [hva] at HV
    have hs : (l.drop n).length = l.length - n := List.length_drop
    have HVal := Lib.hid (fun W (h : HoldsT W (some ⟨b0, off, none⟩) l) (q : Par W pb A c' env inner) (v : WOk a b W) => value_p a b p pb A c' env inner b0 (off + n * 3) (c - n) (l.drop n) W (HX.mono (by omega)) hvo (hl.drop n) (by omega) (by omega) (by omega) (HoldsT.fromS h n) q v)
    obtain ⟨q, hq⟩ : ∃ q, q = l.length - n := ⟨_, rfl⟩
    rw [hs, ← hq] at HVal
    simp only [GivesO, ← hq] at HV
    have f1 : (l.length : Int) - (q : Int) = (n : Int) := by omega
    have f2 : (0 : Int) ≤ (n : Int) := by omega
    have f3 : (n : Int) ≤ (c : Int) := by omega
    have kc : ¬ c = 0 := by omega
    have HAp := Lib.hid (fun (lc : List Tok) (cc : Nat) (Br : Option Addr) (dr : Nat) (t : List Nd) W (e1 : lc = l.take lc.length) (e2 : lc.length < l.length) (e3 : 1 ≤ lc.length) (e4 : lc.length ≤ cc) (h : HoldsT W (some ⟨b0, off, none⟩) l) (q : Par W pb A c' env inner) (v : WOk a b W) (hr : HoldsN W Br t) (hrd : t.length ≤ dr) (hro : OkT t) =>
      apply_p a b p pb A c' env inner b0 off cc lc Br dr t W (HX.mono (by omega)) (HFn.mono (by omega)) (by rw [e1]; exact hl.take _) e3 (by omega) e4 (by rw [e1]; exact HoldsT.to h _) q v hr hrd hro)
    have HH := Lib.hid hh
    have HP := Lib.hid hp
    have HW := Lib.hid hw
    have HR := Lib.hid hR
    clear hh hp hw hl hva HX HFn gx hvo hs hR
    generalize valP p env inner (l.drop n) = rv at *
    have HQ := Lib.hid hq
    have HNl := Lib.hid hnl
    clear hq
    go_enter Tryz.func32, Tryz.ntmps32
    go_wp2_with fail
    refine HV.out.mono ?_
    rintro e w1 ⟨hb, rfl⟩
    have HB1 := Lib.hid hb
    have HH1 := Lib.hid (HH.out.below hb)
    have HP1 := Lib.hid (HP.out.below hb)
    have HW1 := Lib.hid (HW.out.below hb)
    clear hb HV
    go_wp2_with fail
    refine (HVal.out _ HH1.out HP1.out HW1.out).mono ?_
    intro e w2 hG
    have HB2 := Lib.hid (HB1.out.trans (hG.1.mono HB1.out.size))
    have hstart : ∃ tv ev, e = .returned (.tuple #[tv, ev]) ∧ ExAt p b env inner b0 off l w R (.slice (some ⟨b0, off, none⟩) n c) tv ev w2 := by
      rcases (hG.low HB1.out).ways with ⟨t, B, d, L, rfl, rfl, hN, hM, hO⟩ | ⟨y, rfl, rfl⟩
      · have e9 : (l.take n).length = n := by rw [List.length_take]; omega
        exact ⟨_, _, rfl, .inl ⟨t, B, d, L, l.take n, c, l.length, by rw [e9], rfl, rfl, hN, hM, hO, by rw [e9], by omega, by omega, by omega, HR.out⟩⟩
      · exact ⟨_, _, rfl, .inr ⟨y, rfl, HR.out⟩⟩
    obtain ⟨tv, ev, rfl, hst⟩ := hstart
    have HSt := Lib.hid hst
    clear hG hst HR HVal HB1 HH1 HP1 HW1
    go_wp2_with fail
    go_loopw [1, 7, 8] (fun lv tv ev wr => Hid (ExAt p b env inner b0 off l w R lv tv ev wr) ∧ Hid (Below w.heap.size w wr)) (fun lv _ ev _ => exSize lv ev)
    case atStart => exact ⟨HSt, HB2⟩
    case round =>
      obtain ⟨HE, HB⟩ := hrel
      have hsz := HB.out.size
      rcases HE.out with ⟨t, B, d, L, lc, cc, k, rfl, rfl, rfl, hN, hM, hO, h1, h2, h3, h4, hR⟩ | ⟨x, rfl, hR⟩
      · by_cases hz : lc.length = 0
        · have hnil : lc = [] := List.eq_nil_of_length_eq_zero hz
          subst hnil
          have hR2 : R = .ok t := by rw [hR]; simp [exprGo]
          have HF := Lib.hid (show GivesP R b (.returned (.tuple #[.slice B t.length d, .nilIface])) w wr by
            rw [hR2]
            exact ⟨HB.out, B, d, L, rfl, hN, hM, hO⟩)
          clear HE hN hM hO h1 hR hR2
          go_wp2_with fail
          go_ret2
          exact HF.out
        · obtain ⟨hT, hd⟩ := has_holds hN hM
          have HC := Lib.hid (HAp.out lc cc B d t wr h1 h4 (by omega) h2 (HH.out.below HB.out) (HP.out.below HB.out) (HW.out.below HB.out) hT hd hO)
          obtain ⟨k', rfl⟩ : ∃ k', k = k' + 1 := ⟨k - 1, by omega⟩
          have hR2 : R = (match applyP p env inner lc t with
            | .error e => .error e
            | .ok (t', l') => exprGo p env inner k' l' t') := by
            rw [hR]
            cases lc with
            | nil => simp at hz
            | cons y ys => rfl
          have HR := Lib.hid hR2
          have HT := Lib.hid h1
          have i1 : (0 : Int) < (lc.length : Int) := by omega
          clear HE hN hM hO h1 hR hR2 hT HAp
          generalize applyP p env inner lc t = ra at *
          go_wp2_with fail
          refine HC.out.mono ?_
          intro e w4 hG
          have HB4 := Lib.hid (HB.out.trans (hG.1.mono hsz))
          obtain ⟨-, hG2⟩ := hG
          cases ra with
          | error x =>
            obtain ⟨u, v, rfl⟩ := hG2
            have HR9 := Lib.hid (show R = .error x from HR.out)
            clear HR HC
            go_wp2_with fail
            go_roundw
            case rel => exact ⟨Lib.hid (.inr ⟨x, rfl, HR9.out⟩), HB4⟩
            case measure => simp [exSize]
          | ok tl =>
            obtain ⟨t', l'⟩ := tl
            obtain ⟨B', d', L', c2, rfl, hN', hM', hO', g1, g2, g3⟩ := hG2
            have g4 : l' = l.take l'.length := by
              have g5 := g1
              rw [HT.out, List.take_take, Nat.min_eq_left (by omega)] at g5
              exact g5
            have HE9 := Lib.hid (show ExAt p b env inner b0 off l w R (.slice (some ⟨b0, off, none⟩) l'.length c2) (.slice B' t'.length d') .nilIface w4 from
              .inl ⟨t', B', d', L', l', c2, k', rfl, rfl, rfl, hN'.mono hsz, hM', hO', g4, g3, by omega, by omega, HR.out⟩)
            clear HR HC hN' hM' hO' g1 g4
            go_wp2_with fail
            go_roundw
            case rel => exact ⟨HE9, HB4⟩
            case measure => simp [exSize]; omega
      · have HF := Lib.hid (show GivesP R b (.returned (.tuple #[.slice none 0 0, .iface (errT x) (errX b x)])) w wr by
          rw [hR]
          exact ⟨HB.out, rfl⟩)
        clear HE hR
        go_wp2_with fail
        go_ret2
        exact HF.out
end Go.Proofs.YtebejlnegalokaaGreatDoor
