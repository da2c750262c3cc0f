/-
  XGrpK, turned: what this seat needs of it.
-/
import Derived.Test.YtebejlnegalokaaGreatDoorProg
import Derived.Test.YtebejlnegalokaaGreatDoorReg
import Derived.WalkKit
import Derived.WalkSpells
import Derived.WalkLawsBesides
import Derived.Lib.Hide
import Derived.Lib.MinMax
import Derived.Deep.QuietTactic
import Derived.BigQuiet
import Derived.OwnWalk
import Derived.Deep.AppendLies
import Derived.KernelRfl
import Derived.Test.YtebejlnegalokaaGreatDoorReg
import Derived.WalkKit
import Derived.Below
import Derived.Laws.OwnMore
import Derived.Deep.Draws
import Derived.Deep.AppendLies
import Derived.ChangeMaps5
import Derived.Deep.Slices
import Derived.WideShapes
import Derived.Test.YtebejlnegalokaaGreatDoorBytes
import Derived.LaidEql
import Derived.Stop.Asserts
import Derived.RowKitTokens
import Derived.Test.YtebejlnegalokaaGreatDoorMap
import Derived.ArgAppend
import Derived.Laws.Rows
import Derived.Deep.RegionLaw
import Derived.Maps.AppendAt
import Derived.WalkSmall
import Derived.OneCell
import Derived.Test.YtebejlnegalokaaGreatDoorRegG
import Derived.RangeFuncNested
import Derived.RangeFuncBound
import Derived.RangeFuncCalls
import Derived.RangeFuncLeaves
import Derived.RangeFuncBox
import Derived.Shelf.Abstract
import Derived.Test.YtebejlnegalokaaGreatDoorKeep
import Derived.Test.YtebejlnegalokaaGreatDoorJoint
import Derived.OwnWalkIn
import Derived.TacticsInMore
import Derived.LoopNIn
import Derived.LoopIn
import Derived.Deep.Cut
import Derived.Test.YtebejlnegalokaaGreatDoorRegIn
import Derived.Maps.OwnIn
import Derived.Lib.SliceRun
import Derived.Test.YtebejlnegalokaaGreatDoorGzM4
set_option linter.unusedSimpArgs false
set_option linter.unusedVariables false
namespace Go.Proofs.YtebejlnegalokaaGreatDoor.Gz
open Go Go.RowKit
/-- The two listed variables. -/
structure Listed (w : World) : Prop where
  type_ : w.cell? ⟨2, 0, none⟩ = some (.iface 163 (.agg #[.pointer (some ⟨8, 67, none⟩)]))
  err : ∃ bq, w.cell? ⟨3, 0, none⟩ = some (.iface 216 (.pointer (some bq)))
theorem Listed.below {w w' : World} (h : Listed w) (hb : Below w.heap.size w w') : Listed w' := by
  obtain ⟨h1, bq, h2⟩ := h
  exact ⟨(hb.cell (p := ⟨_, 0, none⟩) (cell_lt h1)).trans h1, bq, (hb.cell (p := ⟨_, 0, none⟩) (cell_lt h2)).trans h2⟩
theorem Listed.low {w w0 : World} (h : Listed w0) (hb : Below w0.heap.size w0 w) : Listed w := h.below hb
set_option maxRecDepth 100000 in
set_option maxHeartbeats 4000000 in
theorem gmatch_any (A : Option Addr) (c : Nat) (l : List Tok) (w : World) (hl : mildT l) (hh : HoldsT w A l) (hg : Listed w) :
    Calls Tryz.prog 70 #[.slice A l.length c] w (TellsI w (matchOf l) (codeOf l)) := by
  obtain ⟨bq, he⟩ := hg.err
  have HM := Lib.hid (fun u hu hv => match_any A c l bq u hl hu hv)
  go_enter Tryz.func70, Tryz.ntmps70
  go_wp2_with fail
  refine (HM.out _ hh he).mono ?_
  rintro e w1 ⟨a, dv, pv, ev, rfl, hb, c2, c4, ⟨hc, rfl, ⟨P, cp, rfl, hP⟩, -⟩ | ⟨hc, p, v, rfl, hv⟩⟩
  · have hm := Lib.hid (matchOf_yes hc)
    have hc2 := Lib.hid hc
    have hn := Lib.hid (brsOf_len hc).1
    clear hc
    go_wp2_with fail
    go_ret2
    exact TellsI.mk P cp _ (by rw [hm.out, hn.out]) hc2.out.symm (by rw [hm.out]; exact hP) hb
  · have hm := Lib.hid (matchOf_no hc)
    have hgt := (hg.below hb).type_
    have HT := Lib.hid (told_any (codeOf l) p v hv w1 hgt)
    clear hc
    go_wp2_with fail
    refine HT.out.mono ?_
    rintro e w2 ⟨rfl, hb2⟩
    go_wp2_with fail
    go_ret2
    exact TellsI.mk none 0 0 (by rw [hm.out]; rfl) rfl (by rw [hm.out]; exact HoldsI.nil _ _) (hb.trans (hb2.mono hb.size))
theorem holdsT_cells {w : World} {b off : Nat} {l : List Tok} (h : HoldsT w (some ⟨b, off, none⟩) l) (j : Nat) (u : Value) (hj : (tokCells l)[j]? = some u) : w.cell? ((⟨b, off, none⟩ : Addr).add j) = some u := by
  have hlt : j < l.length * 3 := by rw [← tokCells_length]; exact (List.getElem?_eq_some_iff.1 hj).1
  have hk : j / 3 < l.length := by omega
  obtain ⟨b', off', e, c1, c2, c3⟩ := h (j / 3) _ (List.getElem?_eq_getElem hk)
  cases e
  obtain ⟨t1, t2, t3⟩ := tokCells_get l (j / 3) _ (List.getElem?_eq_getElem hk)
  rw [Addr.add_lit]
  have h3 : j = j / 3 * 3 ∨ j = j / 3 * 3 + 1 ∨ j = j / 3 * 3 + 2 := by omega
  rcases h3 with e | e | e
  · rw [e] at hj ⊢
    rw [t1] at hj
    cases hj
    exact c1
  · rw [e] at hj ⊢
    rw [t2] at hj
    cases hj
    exact c2
  · rw [e] at hj ⊢
    rw [t3] at hj
    cases hj
    exact c3
theorem tokCells_one' (l : List Tok) : ∀ u ∈ tokCells l, u.oneCell' = true := by
  intro u hu
  simp only [tokCells, List.mem_flatMap, Tok.cells] at hu
  obtain ⟨x, _, hx⟩ := hu
  simp at hx
  rcases hx with rfl | rfl | rfl <;> rfl
set_option maxRecDepth 100000 in
set_option maxHeartbeats 4000000 in
theorem clone_any (A : Option Addr) (c : Nat) (l : List Tok) (w : World) (hl : l.length ≤ 1000) (hh : HoldsT w A l) :
    Calls Tryz.prog 89 #[.slice A l.length c] w fun e w' => ∃ v, e = .returned v ∧ w'.ownsRow w.heap.size 37 3 v l.length (tokCells l) ∧ Below w.heap.size w w' := by
  obtain ⟨i0, hi0, hz0, hz1, hz2⟩ := info_parts infoTok
  have q22 : ∀ (w : World) (a : Option Addr) (n c n' c' : Nat), (binOp .eql 34 (.slice a n c) (.slice none n' c')).run Tryz.prog w = .ok (.bool a.isNone) w := fun w a n c n' c' => Lib.run_eql_slice_nil w _ _ a n c n' c' Tryz.underlying34
  cases A with
  | none =>
    have hn : l = [] := by
      cases l with
      | nil => rfl
      | cons x l =>
        obtain ⟨b, off, e, _⟩ := hh 0 x rfl
        cases e
    subst hn
    go_enter Tryz.func89, Tryz.ntmps89
    go_wp2_with fail
    go_ret
    exact ⟨_, rfl, World.ownsRow_nil _ _ _ _, Below.refl _ _⟩
  | some ad =>
    have hnews : Hid (∀ j u, (tokCells l)[j]? = some u → (w.alloc (.cells #[] 37)).cell? (ad.add j) = some u) := Lib.hid (fun j u hj => by
      have hlt : 0 < l.length := by
        have := (List.getElem?_eq_some_iff.1 hj).1
        rw [tokCells_length] at this
        omega
      obtain ⟨b, off, e, _⟩ := hh 0 _ (List.getElem?_eq_getElem hlt)
      cases e
      have h1 := holdsT_cells hh j u hj
      exact (World.cell?_alloc_lt _ _ _ (cell_lt h1)).trans h1)
    have hown : Hid ((w.alloc (.cells #[] 37)).ownsRow w.heap.size 37 3 (.slice (some ⟨w.heap.size, 0, none⟩) 0 0) 0 []) := Lib.hid (World.ownsRow_lit w #[] 0 (Nat.le_refl _) (by unfold maxLen; omega) rfl)
    go_enter Tryz.func89, Tryz.ntmps89
    go_wp2_with (at_builtin; go_must (refine wpList_append_own _ rfl _ _ 34 rfl w.heap.size 37 i0 _ 3 40 Tryz.underlying34 hi0 hz0 hz1 hz2 rfl (by decide) _ 0 [] rfl hown.out ad l.length c (tokCells l) rfl (tokCells_length l) hnews.out (tokCells_one' l) (by unfold maxLen; omega) (by omega) (by simp) ?_); go_must (intro v' w2 hown2 hgrow2 _))
    go_ret
    refine ⟨_, rfl, by simpa using hown2, ((Below.refl _ _).alloc (Nat.le_refl _) _).grown hgrow2 (by simp) (fun k hk => by cases hk; exact Nat.le_refl _)⟩
end Go.Proofs.YtebejlnegalokaaGreatDoor.Gz
/-
  XGrpKb, turned: what this seat needs of it.
-/
namespace Go.Proofs.YtebejlnegalokaaGreatDoor.Gz
open Go Go.RowKit
/-- Rows of two kinds lie apart. -/
theorem rows_apart {W : World} {b1 b2 e1 e2 s1 s2 n1 n2 : Nat} {v1 v2 : Value} {x1 x2 : List Value} (h1 : W.ownsRow b1 e1 s1 v1 n1 x1) (h2 : W.ownsRow b2 e2 s2 v2 n2 x2) (hne : e1 ≠ e2) : Far v1 v2 := by
  intro b hb he
  rcases h1.2 with ⟨rfl, _⟩ | ⟨g, cap, cur, rfl, _, hg, _⟩
  · simp [Value.ownBlock] at hb
  · simp [Value.ownBlock] at hb
    subst hb
    exact row_ne h2 hg hne he
/-- The slice's own cells are slices of the call's own, of the tokens ps. -/
def RowsO (W : World) (base : Nat) (xs : List Value) (ps : List (List Tok)) : Prop := xs.length = ps.length ∧ ∀ (k : Nat) (p : List Tok), ps[k]? = some p → ∃ v, xs[k]? = some v ∧ W.ownsRow base 37 3 v p.length (tokCells p)
theorem RowsO.nil (W : World) (base : Nat) : RowsO W base [] [] := ⟨rfl, fun k p h => by simp at h⟩
theorem RowsO.below {W W' : World} {base : Nat} {xs : List Value} {ps : List (List Tok)} (h : RowsO W base xs ps) (hb : Below W.heap.size W W') : RowsO W' base xs ps :=
  ⟨h.1, fun k p hp => by obtain ⟨v, h1, h2⟩ := h.2 k p hp; exact ⟨v, h1, own_below h2 hb⟩⟩
theorem RowsO.grown {W W' : World} {base b2 n : Nat} {v : Value} {ys : List Value} {xs : List Value} {ps : List (List Tok)} (h : RowsO W base xs ps) (ho : W.ownsRow b2 34 1 v n ys) (hg : W.grownBy W' v.ownBlock) : RowsO W' base xs ps :=
  ⟨h.1, fun k p hp => by obtain ⟨u, h1, h2⟩ := h.2 k p hp; exact ⟨u, h1, h2.kept hg (far_row' (rows_apart h2 ho (by decide)))⟩⟩
theorem RowsO.snoc {W : World} {base : Nat} {xs : List Value} {ps : List (List Tok)} {p : List Tok} {v : Value} (h : RowsO W base xs ps) (hp : W.ownsRow base 37 3 v p.length (tokCells p)) : RowsO W base (xs ++ [v]) (ps ++ [p]) := by
  refine ⟨by simp [h.1], fun k q hq => ?_⟩
  by_cases hk : k < ps.length
  · rw [List.getElem?_append_left hk] at hq
    obtain ⟨u, h1, h2⟩ := h.2 k q hq
    exact ⟨u, by rw [List.getElem?_append_left (by rw [h.1]; exact hk)]; exact h1, h2⟩
  · rw [List.getElem?_append_right (by omega)] at hq
    obtain ⟨h1, rfl⟩ : k - ps.length = 0 ∧ p = q := by
      cases e : k - ps.length with
      | zero => rw [e] at hq; simp at hq; exact ⟨rfl, hq⟩
      | succ j => rw [e] at hq; simp at hq
    have : k = ps.length := by omega
    subst this
    exact ⟨v, by rw [← h.1]; simp, hp⟩
theorem RowsO.rows {W : World} {base : Nat} {xs : List Value} {ps : List (List Tok)} (h : RowsO W base xs ps) : RowsT W xs ps :=
  ⟨h.1, fun k p hp => by
    obtain ⟨v, h1, h2⟩ := h.2 k p hp
    obtain ⟨B, c, rfl, _, hH, hc⟩ := holdsT_of_own h2
    exact ⟨B, c, h1, hc, hH⟩⟩
structure GSplitAt (l : List Tok) (g : ByteArray) (w0 wr : World) (o : Value) (a : Nat) (k : Nat) (xs : List Value) (done : List (List Tok)) : Prop where
  le : k ≤ l.length
  from_ : a ≤ k
  few : done.length ≤ k
  out : wr.ownsRow w0.heap.size 34 1 o done.length xs
  rows : RowsO wr w0.heap.size xs done
  goes : done ++ splitGo g (l.drop k) ((brsOf l).deeps.drop k) (seg l a k) = splitOf l g
  low : Below w0.heap.size w0 wr
theorem br_none_brk {x : Tok} (h : x.brk = false) : x.br = none := by
  rcases br_ways x with ⟨h0, _⟩ | ⟨b, _, _, _, h1, _⟩ | ⟨b, _, _, _, h1, _⟩
  · exact h0
  · rw [h] at h1; cases h1
  · rw [h] at h1; cases h1
set_option maxRecDepth 100000 in
set_option maxHeartbeats 8000000 in
theorem gsplit_any (A : Option Addr) (c : Nat) (l : List Tok) (g : ByteArray) (w : World) (hl : mildT l) (hc : l.length ≤ c) (hh : HoldsT w A l) (hg : Listed w) :
    Calls Tryz.prog 62 #[.slice A l.length c, .string g] w (TellsTT w (splitRes l g).1 (splitRes l g).2) := by
  obtain ⟨i0, hi0, hz0, hz1, hz2⟩ := info_parts infoToks
  obtain ⟨bq, he⟩ := hg.err
  have HM := Lib.hid (fun u hu hv => match_any A c l bq u hl hu hv)
  obtain ⟨hl1, hl2⟩ := hl
  have HI := Lib.hid (fun x u => isSign_any x g u)
  have HK := Lib.hid (fun x u hx => isBracket_any x u hx)
  have HCl := Lib.hid clone_any
  go_enter Tryz.func62, Tryz.ntmps62
  go_wp2_with fail
  refine (HM.out _ hh he).mono ?_
  rintro e w1 ⟨a, dv, pv, ev, rfl, hb1, c2, c4, ⟨h0, rfl, -, B1, d1, rfl, hD⟩ | ⟨h0, p, v, rfl, hv⟩⟩
  · have hlen := (brsOf_len h0).2
    have HD := Lib.hid hD
    have HR : Hid (splitRes l g = (splitOf l g, 0)) := Lib.hid (by unfold splitRes; rw [if_pos h0])
    have HB := Lib.hid hb1
    have HH := Lib.hid (hh.below HB.out)
    clear hD hb1 h0 HM
    unfold deepsOf at HD
    generalize hDD : (brsOf l).deeps = D at *
    go_wp2_with fail
    go_loopw [8, 9, 29] (fun o a i wr => ∃ (k f : Nat) (xs : List Value) (done : List (List Tok)), i = .int .i64 k ∧ a = .int .i64 f ∧ GSplitAt l g w1 wr o f k xs done)
      (fun _ _ i _ => l.length - (intOf i).toNat)
    case atStart => exact ⟨0, 0, [], [], rfl, rfl, by omega, by omega, by simp, World.ownsRow_nil _ _ _ _, RowsO.nil _ _, by unfold splitOf; simp [seg], Below.refl _ _⟩
    case round =>
      obtain ⟨k, f, xs, done, rfl, rfl, hle, hf, hfew, hout, hrows, hgoes, hlow⟩ := hrel
      rw [hDD] at hgoes
      have Hlow := Lib.hid hlow
      have hsz := hlow.size
      have Hrows := Lib.hid hrows
      have Hout := Lib.hid hout
      by_cases hlt : k < l.length
      · have hx : l[k]? = some l[k] := List.getElem?_eq_getElem hlt
        have hkD : k < D.length := by rw [hlen]; exact hlt
        have hd : D[k]? = some D[k] := List.getElem?_eq_getElem hkD
        obtain ⟨bd, od, rfl, cd⟩ := (HD.out.below hlow) k (D[k] : Int) (by rw [List.getElem?_map, hd]; rfl)
        have Hyes := Lib.hid (fun (h1 : D[k] = 0) h2 h3 => split_yes (g := g) (a := f) (done := done) hx (hd.trans (congrArg some h1)) h2 h3 hgoes)
        have Hno := Lib.hid (fun hn => split_no (g := g) (a := f) (done := done) hx hd hf hn hgoes)
        obtain ⟨b, off, rfl, c1, c2, c3⟩ := (HH.out.below hlow) k l[k] hx
        have hgl := (hl2 k _ hx).2
        have lb := cell_lt c1
        have lbd := cell_lt cd
        simp only at lb lbd
        have hlow1 := Lib.hid ((hlow.alloc hsz (.cells #[.int .i64 l[k].kind, .string l[k].text, .string l[k].glyph] 37)))
        have hout1 := Lib.hid (hout.alloc (.cells #[.int .i64 l[k].kind, .string l[k].text, .string l[k].glyph] 37))
        have hrows1 := Lib.hid (hrows.below ((Below.refl _ _).alloc (Nat.le_refl _) (.cells #[.int .i64 l[k].kind, .string l[k].text, .string l[k].glyph] 37)))
        clear hd hx hgoes hlow hrows hout
        generalize l[k] = x at *
        generalize D[k] = d at *
        by_cases hd0 : d = 0
        · subst hd0
          have HI1 := Lib.hid (HI.out x)
          have HK1 := Lib.hid (fun u => HK.out x u (by unfold maxLen; omega))
          unfold Tok.val at HI1 HK1
          go_wp2_with fail
          refine (HI1.out _).mono ?_
          rintro r w2 ⟨rfl, hb⟩
          have hnx : w2.heap[wr.heap.size]? = some (.cells #[.int .i64 x.kind, .string x.text, .string x.glyph] 37 (0, 0)) := (hb.block _ (by simp)).trans (heap_alloc_new wr _)
          have hout2 := Lib.hid (own_below hout1.out hb)
          have hrows2 := Lib.hid (hrows1.out.below hb)
          have hlow2 := Lib.hid (hlow1.out.trans (hb.mono hlow1.out.size))
          have cx0 : w2.cell? ⟨wr.heap.size, 0, none⟩ = some (.int .i64 x.kind) := by simp [World.cell?, hnx]
          have cx1 : w2.cell? ⟨wr.heap.size, 1, none⟩ = some (.string x.text) := by simp [World.cell?, hnx]
          have cx2 : w2.cell? ⟨wr.heap.size, 2, none⟩ = some (.string x.glyph) := by simp [World.cell?, hnx]
          clear hb c1 c2 c3 Hout Hlow HI1 cd hout1 hlow1 hrows1 hnx
          cases hs : x.isSign g with
          | false =>
            have Z := Lib.hid (Hno.out (fun h => by rw [hs] at h; cases h.2.1))
            clear hs
            go_wp2_with fail
            go_roundw
            case rel => exact ⟨k + 1, f, xs, done, by go_num, rfl, by omega, by omega, by omega, hout2.out, hrows2.out, by rw [hDD]; exact Z.out, hlow2.out⟩
            case measure => simp [intOf]; omega
          | true =>
            go_wp2_with fail
            refine (HK1.out _).mono ?_
            rintro r w3 ⟨rfl, hb⟩
            have hout3 := Lib.hid (own_below hout2.out hb)
            have hrows3 := Lib.hid (hrows2.out.below hb)
            have hlow3 := Lib.hid (hlow2.out.trans (hb.mono hlow2.out.size))
            clear hb hout2 hrows2 hlow2 cx0 cx1 cx2 HK1
            cases hk : x.brk with
            | true =>
              have Z := Lib.hid (Hno.out (fun h => by
                rcases br_ways x with ⟨_, _, _, h1, _⟩ | ⟨b, h1, _⟩ | ⟨b, h1, _⟩
                · rw [hk] at h1; cases h1
                · rw [h.2.2] at h1; cases h1
                · rw [h.2.2] at h1; cases h1))
              clear hk hs
              go_wp2_with fail
              go_roundw
              case rel => exact ⟨k + 1, f, xs, done, by go_num, rfl, by omega, by omega, by omega, hout3.out, hrows3.out, by rw [hDD]; exact Z.out, hlow3.out⟩
              case measure => simp [intOf]; omega
            | false =>
              have Z := Lib.hid (Hyes.out (by simp) hs (br_none_brk hk))
              have f1 : (f : Int) ≤ (k : Int) := by omega
              have f2 : (k : Int) ≤ (c : Int) := by omega
              have f3 : (0 : Int) ≤ (f : Int) := by omega
              have f4 : ((k : Int) - (f : Int)).toNat = k - f := by omega
              by_cases hkf : k = f
              · have hsl : seg l f k = [] := List.eq_nil_of_length_eq_zero (by rw [seg_len (by omega)]; omega)
                have Hsl : Hid ((seg l f k).length = 0) := Lib.hid (by rw [hsl]; rfl)
                have HC1 := Lib.hid (HCl.out (some ⟨b, off, none⟩) 0 [] w3 (by simp) (HoldsT.nil _ _))
                rw [← hsl, Hsl.out] at HC1
                have e1 : k - f = 0 := by omega
                rw [e1] at f4
                clear hk hs hsl
                go_wp2_with fail
                refine HC1.out.mono ?_
                rintro r w4 ⟨v, rfl, hv, hb4⟩
                obtain ⟨A6, c6, rfl⟩ := owns_slice hv
                have hout4 := Lib.hid (own_below hout3.out hb4)
                have hlow4 := Lib.hid (hlow3.out.trans (hb4.mono hlow3.out.size))
                have hrows4 := Lib.hid ((hrows3.out.below hb4).snoc (p := seg l f k) (by rw [Hsl.out]; exact own_mono hv hlow3.out.size))
                have lt4 := hlow4.out.size
                have ge4 := ownBlock_ge hout4.out
                clear hv hb4 hout3 hlow3 hrows3 HC1
                go_wp2_with (at_builtin; go_must (refine wpList_append_own _ rfl _ _ 92 rfl w1.heap.size 34 i0 _ 1 24 Tryz.underlying92 hi0 hz0 hz1 hz2 rfl (by decide) u8 done.length xs rfl (hout4.out.alloc _) ⟨w4.heap.size, 0, none⟩ 1 1 [.slice A6 0 c6] rfl rfl (cell_one_new _ _ _) (by simp [Value.oneCell']) (by unfold maxLen; omega) (by omega) (by simp; omega) ?_); go_must (intro v1 w5 hout5 hg5 _))
                go_roundw
                case rel => exact ⟨k + 1, k + 1, _, done ++ [seg l f k], by go_num, by go_num, by omega, by omega, by simp; omega, by simpa using hout5, (hrows4.out.below ((Below.refl _ _).alloc (Nat.le_refl _) _)).grown (hout4.out.alloc _) hg5, by rw [hDD]; exact Z.out, (hlow4.out.alloc lt4 _).grown hg5 (by simp; omega) ge4⟩
                case measure => simp [intOf]; omega
              · have hp : HoldsT w3 (some ⟨b, off + f * 3, none⟩) (seg l f k) := (HH.out.below hlow3.out).seg f k
                have hsl := seg_len (l := l) (a := f) (b := k) (by omega)
                have HC1 := Lib.hid (HCl.out (some ⟨b, off + f * 3, none⟩) (k - f) (seg l f k) w3 (by omega) hp)
                rw [hsl] at HC1
                have Hsl := Lib.hid hsl
                clear hk hs hp hsl
                go_wp2_with fail
                refine HC1.out.mono ?_
                rintro r w4 ⟨v, rfl, hv, hb4⟩
                obtain ⟨A6, c6, rfl⟩ := owns_slice hv
                have hout4 := Lib.hid (own_below hout3.out hb4)
                have hlow4 := Lib.hid (hlow3.out.trans (hb4.mono hlow3.out.size))
                have hrows4 := Lib.hid ((hrows3.out.below hb4).snoc (p := seg l f k) (by rw [Hsl.out]; exact own_mono hv hlow3.out.size))
                have lt4 := hlow4.out.size
                have ge4 := ownBlock_ge hout4.out
                clear hv hb4 hout3 hlow3 hrows3 HC1
                go_wp2_with (at_builtin; go_must (refine wpList_append_own _ rfl _ _ 92 rfl w1.heap.size 34 i0 _ 1 24 Tryz.underlying92 hi0 hz0 hz1 hz2 rfl (by decide) u8 done.length xs rfl (hout4.out.alloc _) ⟨w4.heap.size, 0, none⟩ 1 1 [.slice A6 (k - f) c6] rfl rfl (cell_one_new _ _ _) (by simp [Value.oneCell']) (by unfold maxLen; omega) (by omega) (by simp; omega) ?_); go_must (intro v1 w5 hout5 hg5 _))
                go_roundw
                case rel => exact ⟨k + 1, k + 1, _, done ++ [seg l f k], by go_num, by go_num, by omega, by omega, by simp; omega, by simpa using hout5, (hrows4.out.below ((Below.refl _ _).alloc (Nat.le_refl _) _)).grown (hout4.out.alloc _) hg5, by rw [hDD]; exact Z.out, (hlow4.out.alloc lt4 _).grown hg5 (by simp; omega) ge4⟩
                case measure => simp [intOf]; omega
        · have q0 : ((d : Int) == 0) = false := by simp; omega
          have Z := Lib.hid (Hno.out (fun h => hd0 h.1))
          clear hd0
          go_wp2_with fail
          go_roundw
          case rel => exact ⟨k + 1, f, xs, done, by go_num, rfl, by omega, by omega, by omega, hout1.out, hrows1.out, by rw [hDD]; exact Z.out, hlow1.out⟩
          case measure => simp [intOf]; omega
      · obtain rfl : k = l.length := by omega
        have Z := Lib.hid (split_end hgoes)
        have Hfin : Hid (∀ (v1 : Value) (w5 : World) (ys : List Value), w5.ownsRow w1.heap.size 34 1 v1 (done.length + 1) ys → RowsO w5 w1.heap.size ys (done ++ [seg l f l.length]) → Below w1.heap.size w1 w5 →
            TellsTT w (splitRes l g).1 (splitRes l g).2 (.returned (.tuple #[v1, .int .i64 0])) w5) := Lib.hid (fun v1 w5 ys ho hr5 hb5 => by
          obtain ⟨B, d, rfl, hn, hH, hcap⟩ := holdsTT_of_own ho hr5.rows
          rw [Z.out] at hH hn
          exact TellsTT.mk B d _ (by rw [HR.out, ← Z.out]) (by rw [HR.out]) (by rw [HR.out]; exact hH) (HB.out.trans (hb5.mono HB.out.size)))
        clear hgoes hlow hrows
        have f1 : (f : Int) ≤ (l.length : Int) := by omega
        have f2 : (l.length : Int) ≤ (c : Int) := by omega
        have f3 : (0 : Int) ≤ (f : Int) := by omega
        have f4 : ((l.length : Int) - (f : Int)).toNat = l.length - f := by omega
        have f5 : ((c : Int) - (f : Int)).toNat = c - f := by omega
        by_cases hcf : c = f
        · have hsl : seg l f l.length = [] := List.eq_nil_of_length_eq_zero (by rw [seg_len (by omega)]; omega)
          have Hsl : Hid ((seg l f l.length).length = 0) := Lib.hid (by rw [hsl]; rfl)
          have e1 : l.length - f = 0 := by omega
          have e2 : c - f = 0 := by omega
          rw [e1] at f4
          rw [e2] at f5
          have HC1 := Lib.hid (HCl.out A 0 [] wr (by simp) (HoldsT.nil _ _))
          rw [← hsl, Hsl.out] at HC1
          clear hsl
          go_wp2_with fail
          refine HC1.out.mono ?_
          rintro r w4 ⟨v, rfl, hv, hb4⟩
          obtain ⟨A6, c6, rfl⟩ := owns_slice hv
          have hout4 := own_below hout hb4
          have hlow4 := Lib.hid (Hlow.out.trans (hb4.mono Hlow.out.size))
          have hrows4 := (Hrows.out.below hb4).snoc (p := seg l f l.length) (by rw [Hsl.out]; exact own_mono hv Hlow.out.size)
          have lt4 := hlow4.out.size
          have ge4 := ownBlock_ge hout4
          clear hv hb4
          go_wp2_with (at_builtin; go_must (refine wpList_append_own _ rfl _ _ 92 rfl w1.heap.size 34 i0 _ 1 24 Tryz.underlying92 hi0 hz0 hz1 hz2 rfl (by decide) u8 done.length xs rfl (hout4.alloc _) ⟨w4.heap.size, 0, none⟩ 1 1 [.slice A6 0 c6] rfl rfl (cell_one_new _ _ _) (by simp [Value.oneCell']) (by unfold maxLen; omega) (by omega) (by simp; omega) ?_); go_must (intro v1 w5 hout5 hg5 _))
          go_ret2
          exact Hfin.out _ _ _ hout5 ((hrows4.below ((Below.refl _ _).alloc (Nat.le_refl _) _)).grown (hout4.alloc _) hg5) ((hlow4.out.alloc lt4 _).grown hg5 (by simp; omega) ge4)
        · have hp : HoldsT wr (A.map fun a => a.add (f * 3)) (seg l f l.length) := by
            by_cases hn : f < l.length
            · obtain ⟨b, off, e, _⟩ := HH.out 0 _ (List.getElem?_eq_getElem (show 0 < l.length by omega))
              have h2 : (A.map fun a => a.add (f * 3)) = some ⟨b, off + f * 3, none⟩ := by rw [e]; simp [Addr.add_lit]
              rw [h2]
              have h3 := HH.out.below Hlow.out
              rw [e] at h3
              exact h3.seg f l.length
            · have : seg l f l.length = [] := List.eq_nil_of_length_eq_zero (by rw [seg_len (Nat.le_refl _)]; omega)
              rw [this]
              exact HoldsT.nil _ _
          have hsl := seg_len (l := l) (a := f) (b := l.length) (by omega)
          have HC1 := Lib.hid (HCl.out (A.map fun a => a.add (f * 3)) (c - f) (seg l f l.length) wr (by omega) hp)
          rw [hsl] at HC1
          have Hsl := Lib.hid hsl
          clear hp hsl
          go_wp2_with fail
          refine HC1.out.mono ?_
          rintro r w4 ⟨v, rfl, hv, hb4⟩
          obtain ⟨A6, c6, rfl⟩ := owns_slice hv
          have hout4 := own_below hout hb4
          have hlow4 := Lib.hid (Hlow.out.trans (hb4.mono Hlow.out.size))
          have hrows4 := (Hrows.out.below hb4).snoc (p := seg l f l.length) (by rw [Hsl.out]; exact own_mono hv Hlow.out.size)
          have lt4 := hlow4.out.size
          have ge4 := ownBlock_ge hout4
          clear hv hb4
          go_wp2_with (at_builtin; go_must (refine wpList_append_own _ rfl _ _ 92 rfl w1.heap.size 34 i0 _ 1 24 Tryz.underlying92 hi0 hz0 hz1 hz2 rfl (by decide) u8 done.length xs rfl (hout4.alloc _) ⟨w4.heap.size, 0, none⟩ 1 1 [.slice A6 (l.length - f) c6] rfl rfl (cell_one_new _ _ _) (by simp [Value.oneCell']) (by unfold maxLen; omega) (by omega) (by simp; omega) ?_); go_must (intro v1 w5 hout5 hg5 _))
          go_ret2
          exact Hfin.out _ _ _ hout5 ((hrows4.below ((Below.refl _ _).alloc (Nat.le_refl _) _)).grown (hout4.alloc _) hg5) ((hlow4.out.alloc lt4 _).grown hg5 (by simp; omega) ge4)
  · have hd : Hid (splitRes l g = ([], codeOf l)) := Lib.hid (by unfold splitRes; rw [if_neg h0])
    have hgt := (hg.below hb1).type_
    have HT := Lib.hid (told_any (codeOf l) p v hv w1 hgt)
    clear h0
    go_wp2_with fail
    refine HT.out.mono ?_
    rintro e w2 ⟨rfl, hb2⟩
    go_wp2_with fail
    go_ret2
    exact TellsTT.mk none 0 0 (by rw [hd.out]; rfl) (by rw [hd.out]) (by rw [hd.out]; exact HoldsTT.nil _ _) (hb1.trans (hb2.mono hb1.size))
end Go.Proofs.YtebejlnegalokaaGreatDoor.Gz
/-
  XGrpKc, turned: what this seat needs of it.
-/
namespace Go.Proofs.YtebejlnegalokaaGreatDoor.Gz
open Go Go.RowKit
set_option maxRecDepth 100000 in
set_option maxHeartbeats 8000000 in
theorem ginside_any (A : Option Addr) (c : Nat) (l : List Tok) (at_ : Int) (w : World) (hl : mildT l) (hc : l.length ≤ c) (hh : HoldsT w A l) (hg : Listed w) :
    Calls Tryz.prog 110 #[.slice A l.length c, .int .i64 at_] w (TellsT w (insideRes l at_).1 (insideRes l at_).2) := by
  obtain ⟨bq, he⟩ := hg.err
  have HM := Lib.hid (fun u hu hv => match_any A c l bq u hl hu hv)
  obtain ⟨hl1, hl2⟩ := hl
  have HCl := Lib.hid clone_any
  go_enter Tryz.func110, Tryz.ntmps110
  go_wp2_with fail
  refine (HM.out _ hh he).mono ?_
  rintro e w1 ⟨a, dv, pv, ev, rfl, hb1, c2, c4, ⟨h0, rfl, ⟨P, cp, rfl, hP⟩, -⟩ | ⟨h0, p, v, rfl, hv⟩⟩
  · have HB := Lib.hid hb1
    have H0 := Lib.hid h0
    have HP := Lib.hid hP
    clear hb1 h0 HM hP
    by_cases ha0 : at_ < 0
    · have HR := Lib.hid (insideRes_no (l := l) (a := at_) H0.out (by omega))
      go_wp2_with fail
      go_ret2
      exact TellsT.mk none 0 0 (by rw [HR.out]; rfl) (by rw [HR.out]) (by rw [HR.out]; exact HoldsT.nil _ _) HB.out
    · by_cases ha1 : at_ < l.length
      · obtain ⟨n, rfl⟩ : ∃ n : Nat, at_ = n := ⟨at_.toNat, by omega⟩
        have hn : n < l.length := by omega
        obtain ⟨b1, o1, rfl, c1⟩ := HP.out n _ (pr_get H0.out hn)
        by_cases hp : (n : Int) ≤ (brsOf l).pr n
        · obtain ⟨j, hj, h1, h2⟩ := inside_pair H0.out hn hp
          have HR := Lib.hid (insideRes_yes H0.out hn hj h1)
          obtain ⟨b, off, rfl, -⟩ := (hh.below HB.out) 0 _ (List.getElem?_eq_getElem (show 0 < l.length by omega))
          have HT := Lib.hid ((hh.below HB.out).seg (n + 1) j)
          have hsl := Lib.hid (seg_len (l := l) (a := n + 1) (b := j) (by omega))
          rw [hj] at c1 hp
          have e0 : ¬ (n : Int) < 0 := by omega
          have e1 : (n : Int) + 1 ≤ (j : Int) := by omega
          have e2 : (j : Int) ≤ (c : Int) := by omega
          have e3 : ¬ (j : Int) < (n : Int) := by omega
          have e4 : (0 : Int) ≤ (n : Int) + 1 := by omega
          have e5 : ((n : Int) + 1).toNat = n + 1 := by omega
          have e6 : ((j : Int) - ((n : Int) + 1)).toNat = j - (n + 1) := by omega
          have e8 : IntKind.i64.wrap ((n : Int) + 1) = (n : Int) + 1 := by rw [IntWalk.i64_in] <;> omega
          have f0 : decide ((n : Int) < 0) = false := by rw [decide_eq_false_iff_not]; omega
          have f1 : decide (l.length ≤ n) = false := by rw [decide_eq_false_iff_not]; omega
          have f2 : decide (j < n) = false := by rw [decide_eq_false_iff_not]; omega
          have f3 : decide ((l.length : Int) ≤ (n : Int)) = false := by rw [decide_eq_false_iff_not]; omega
          have f4 : decide ((j : Int) < (n : Int)) = false := by rw [decide_eq_false_iff_not]; omega
          clear hj ha0 hh
          by_cases hjn : j = n + 1
          · have HC1 := Lib.hid (fun u => HCl.out (some ⟨b, off, none⟩) 0 [] u (by simp) (HoldsT.nil _ _))
            simp only [List.length_nil] at HC1
            have hs0 : Hid (seg l (n + 1) j = []) := Lib.hid (List.eq_nil_of_length_eq_zero (by rw [hsl.out]; omega))
            have e9 : j - (n + 1) = 0 := by omega
            have e10 : n + 1 = j := hjn.symm
            rw [e9] at e6
            clear hjn
            go_wp2_with fail
            refine wp_region_ord (S := fun w' => w'.cell? ⟨a, 2, none⟩ = some (.slice (some ⟨b1, o1, none⟩) l.length cp) ∧ w'.cell? ⟨b1, o1 + n, none⟩ = some (.int .i64 (j : Int))) [0, 1, 2, 3, 4, 5, 6, 7, 8, 9, 10, 11, 12, 13, 14, 15, 16, 17] [18, 19, 20] (by kernel_rfl) (by kernel_rfl) (fun _ _ _ _ _ h => h) ⟨c2, c1⟩ ?_
            simp only [pick, List.filterMap_cons, List.filterMap_nil, List.getElem?_toArray, List.getElem?_cons_zero, List.getElem?_cons_succ]
            repeat (refine wpHead_step (v := ?_) rfl ?_ ?_; rotate_left; (focus (rintro w1 ⟨c2, c1⟩; go_simp; try with_reducible rfl)); simp only [Act.put, List.setIfInBounds_toArray, List.set_cons_zero, List.set_cons_succ])
            refine wpHead_nil ?_
            refine wpTail_step rfl (fun K hK => ?_)
            go_wp2_with fail
            refine (HC1.out _).mono ?_
            rintro r w3 ⟨v, rfl, hv, hb⟩
            obtain ⟨A6, c6, rfl⟩ := owns_slice hv
            have c2' := (hb.cell (p := ⟨a, 2, none⟩) (by have := cell_lt c2; simpa using this)).trans c2
            have c1' := (hb.cell (p := ⟨b1, o1 + n, none⟩) (by have := cell_lt c1; simpa using this)).trans c1
            have hb3 : Hid (Below w.heap.size w w3) := Lib.hid (HB.out.drew.trans (hb.mono HB.out.size))
            clear hb
            go_wp2_with fail
            refine hK _ _ ⟨c2', c1'⟩ ?_
            clear hK K
            try simp only [Act.put, List.setIfInBounds_toArray, List.set_cons_zero, List.set_cons_succ]
            refine wpTail_step rfl (fun K hK => ?_)
            go_wp2_with fail
            refine hK _ _ ⟨c2', c1'⟩ ?_
            clear hK K
            try simp only [Act.put, List.setIfInBounds_toArray, List.set_cons_zero, List.set_cons_succ]
            refine wpTail_step rfl (fun K hK => ?_)
            go_wp2_with fail
            refine hK _ _ ⟨c2', c1'⟩ ?_
            clear hK K
            try simp only [Act.put, List.setIfInBounds_toArray, List.set_cons_zero, List.set_cons_succ]
            refine wpTail_nil ?_
            go_wp2_with fail
            go_ret2
            obtain ⟨B9, c9, e9, hn9, hH, _⟩ := holdsT_of_own hv
            injection e9 with e9a _ _
            subst e9a
            exact TellsT.mk _ _ _ (by rw [HR.out, hs0.out]; rfl) (by rw [HR.out]) (by rw [HR.out, hs0.out]; exact hH) hb3.out
          · have HC1 := Lib.hid (fun u hu => HCl.out (some ⟨b, off + (n + 1) * 3, none⟩) (j - (n + 1)) (seg l (n + 1) j) u (by rw [hsl.out]; omega) hu)
            rw [hsl.out] at HC1
            have HC1 := Lib.hid (HC1.out w1.drew HT.out)
            go_wp2_with fail
            refine wp_region_ord (S := fun w' => w'.cell? ⟨a, 2, none⟩ = some (.slice (some ⟨b1, o1, none⟩) l.length cp) ∧ w'.cell? ⟨b1, o1 + n, none⟩ = some (.int .i64 (j : Int))) [0, 1, 2, 3, 4, 5, 6, 7, 8, 9, 10, 11, 12, 13, 14, 15, 16, 17] [18, 19, 20] (by kernel_rfl) (by kernel_rfl) (fun _ _ _ _ _ h => h) ⟨c2, c1⟩ ?_
            simp only [pick, List.filterMap_cons, List.filterMap_nil, List.getElem?_toArray, List.getElem?_cons_zero, List.getElem?_cons_succ]
            repeat (refine wpHead_step (v := ?_) rfl ?_ ?_; rotate_left; (focus (rintro w1 ⟨c2, c1⟩; go_simp; try with_reducible rfl)); simp only [Act.put, List.setIfInBounds_toArray, List.set_cons_zero, List.set_cons_succ])
            refine wpHead_nil ?_
            refine wpTail_step rfl (fun K hK => ?_)
            go_wp2_with fail
            refine (HC1.out).mono ?_
            rintro r w3 ⟨v, rfl, hv, hb⟩
            obtain ⟨A6, c6, rfl⟩ := owns_slice hv
            have c2' := (hb.cell (p := ⟨a, 2, none⟩) (by have := cell_lt c2; simpa using this)).trans c2
            have c1' := (hb.cell (p := ⟨b1, o1 + n, none⟩) (by have := cell_lt c1; simpa using this)).trans c1
            have hb3 : Hid (Below w.heap.size w w3) := Lib.hid (HB.out.drew.trans (hb.mono HB.out.size))
            clear hb
            go_wp2_with fail
            refine hK _ _ ⟨c2', c1'⟩ ?_
            clear hK K
            try simp only [Act.put, List.setIfInBounds_toArray, List.set_cons_zero, List.set_cons_succ]
            refine wpTail_step rfl (fun K hK => ?_)
            go_wp2_with fail
            refine hK _ _ ⟨c2', c1'⟩ ?_
            clear hK K
            try simp only [Act.put, List.setIfInBounds_toArray, List.set_cons_zero, List.set_cons_succ]
            refine wpTail_step rfl (fun K hK => ?_)
            go_wp2_with fail
            refine hK _ _ ⟨c2', c1'⟩ ?_
            clear hK K
            try simp only [Act.put, List.setIfInBounds_toArray, List.set_cons_zero, List.set_cons_succ]
            refine wpTail_nil ?_
            go_wp2_with fail
            go_ret2
            obtain ⟨B9, c9, e9, hn9, hH, _⟩ := holdsT_of_own hv
            injection e9 with e9a _ _
            subst e9a
            exact TellsT.mk _ _ _ (by rw [HR.out]; exact hsl.out.symm) (by rw [HR.out]) (by rw [HR.out]; exact hH) hb3.out
        · have HR := Lib.hid (insideRes_no (l := l) (a := n) H0.out (by rw [Int.toNat_natCast]; omega))
          have e0 : ¬ (n : Int) < 0 := by omega
          have e3 : (brsOf l).pr n < (n : Int) := by omega
          generalize (brsOf l).pr n = p at *
          clear ha0 hp
          go_wp2_with fail
          go_ret2
          exact TellsT.mk none 0 0 (by rw [HR.out]; rfl) (by rw [HR.out]) (by rw [HR.out]; exact HoldsT.nil _ _) HB.out
      · have HR := Lib.hid (insideRes_no (l := l) (a := at_) H0.out (by omega))
        have e1 : (l.length : Int) ≤ at_ := by omega
        clear ha1
        go_wp2_with fail
        go_ret2
        exact TellsT.mk none 0 0 (by rw [HR.out]; rfl) (by rw [HR.out]) (by rw [HR.out]; exact HoldsT.nil _ _) HB.out
  · have hd : Hid (insideRes l at_ = ([], codeOf l)) := Lib.hid (by unfold insideRes; rw [if_neg h0])
    have hgt := (hg.below hb1).type_
    have HT := Lib.hid (told_any (codeOf l) p v hv w1 hgt)
    clear h0
    go_wp2_with fail
    refine HT.out.mono ?_
    rintro e w2 ⟨rfl, hb2⟩
    go_wp2_with fail
    go_ret2
    exact TellsT.mk none 0 0 (by rw [hd.out]; rfl) (by rw [hd.out]) (by rw [hd.out]; exact HoldsT.nil _ _) (hb1.trans (hb2.mono hb1.size))
end Go.Proofs.YtebejlnegalokaaGreatDoor.Gz
