/-
  Parts, insides, by the program.
-/
import Derived.Test.YtlokkdbgihbnhabDoorProg
import Derived.Test.YtlokkdbgihbnhabDoorReg
import Derived.WalkKit
import Derived.WalkSpells
import Derived.WalkLawsBesides
import Derived.Lib.Hide
import Derived.Lib.MinMax
import Derived.Deep.QuietTactic
import Derived.BigQuiet
import Derived.OwnWalk
import Derived.Deep.AppendLies
import Derived.KernelRfl
import Derived.ArgAppend
import Derived.Maps.AppendAt
import Derived.Laws.Rows
import Derived.Test.YtlokkdbgihbnhabDoorRegG
import Derived.Test.YtlokkdbgihbnhabDoorGrpK
import Derived.Test.YtlokkdbgihbnhabDoorGrpRc
set_option linter.unusedSimpArgs false
set_option linter.unusedVariables false
namespace Go.Proofs.YtlokkdbgihbnhabDoor
open Go Go.RowKit

/-- Rows of two kinds lie apart. -/
theorem rows_apart {W : World} {b1 b2 e1 e2 s1 s2 n1 n2 : Nat} {v1 v2 : Value} {x1 x2 : List Value} (h1 : W.ownsRow b1 e1 s1 v1 n1 x1) (h2 : W.ownsRow b2 e2 s2 v2 n2 x2) (hne : e1 ≠ e2) : Far v1 v2 := by
  intro b hb he
  rcases h1.2 with ⟨rfl, _⟩ | ⟨g, cap, cur, rfl, _, hg, _⟩
  · simp [Value.ownBlock] at hb
  · simp [Value.ownBlock] at hb
    subst hb
    exact row_ne h2 hg hne he

/-- The slice's own cells are slices of the call's own, of the tokens ps. -/
def RowsO (W : World) (base : Nat) (xs : List Value) (ps : List (List Tok)) : Prop := xs.length = ps.length ∧ ∀ (k : Nat) (p : List Tok), ps[k]? = some p → ∃ v, xs[k]? = some v ∧ W.ownsRow base 30 3 v p.length (tokCells p)
theorem RowsO.nil (W : World) (base : Nat) : RowsO W base [] [] := ⟨rfl, fun k p h => by simp at h⟩
theorem RowsO.below {W W' : World} {base : Nat} {xs : List Value} {ps : List (List Tok)} (h : RowsO W base xs ps) (hb : Below W.heap.size W W') : RowsO W' base xs ps :=
  ⟨h.1, fun k p hp => by obtain ⟨v, h1, h2⟩ := h.2 k p hp; exact ⟨v, h1, own_below h2 hb⟩⟩
theorem RowsO.grown {W W' : World} {base b2 n : Nat} {v : Value} {ys : List Value} {xs : List Value} {ps : List (List Tok)} (h : RowsO W base xs ps) (ho : W.ownsRow b2 22 1 v n ys) (hg : W.grownBy W' v.ownBlock) : RowsO W' base xs ps :=
  ⟨h.1, fun k p hp => by obtain ⟨u, h1, h2⟩ := h.2 k p hp; exact ⟨u, h1, h2.kept hg (far_row' (rows_apart h2 ho (by decide)))⟩⟩
theorem RowsO.snoc {W : World} {base : Nat} {xs : List Value} {ps : List (List Tok)} {p : List Tok} {v : Value} (h : RowsO W base xs ps) (hp : W.ownsRow base 30 3 v p.length (tokCells p)) : RowsO W base (xs ++ [v]) (ps ++ [p]) := by
  refine ⟨by simp [h.1], fun k q hq => ?_⟩
  by_cases hk : k < ps.length
  · rw [List.getElem?_append_left hk] at hq
    obtain ⟨u, h1, h2⟩ := h.2 k q hq
    exact ⟨u, by rw [List.getElem?_append_left (by rw [h.1]; exact hk)]; exact h1, h2⟩
  · rw [List.getElem?_append_right (by omega)] at hq
    obtain ⟨h1, rfl⟩ : k - ps.length = 0 ∧ p = q := by
      cases e : k - ps.length with
      | zero => rw [e] at hq; simp at hq; exact ⟨rfl, hq⟩
      | succ j => rw [e] at hq; simp at hq
    have : k = ps.length := by omega
    subst this
    exact ⟨v, by rw [← h.1]; simp, hp⟩
theorem RowsO.rows {W : World} {base : Nat} {xs : List Value} {ps : List (List Tok)} (h : RowsO W base xs ps) : RowsT W xs ps :=
  ⟨h.1, fun k p hp => by
    obtain ⟨v, h1, h2⟩ := h.2 k p hp
    obtain ⟨B, c, rfl, _, hH, hc⟩ := holdsT_of_own h2
    exact ⟨B, c, h1, hc, hH⟩⟩

structure GSplitAt (l : List Tok) (g : ByteArray) (w0 wr : World) (o : Value) (a : Nat) (k : Nat) (xs : List Value) (done : List (List Tok)) : Prop where
  le : k ≤ l.length
  from_ : a ≤ k
  few : done.length ≤ k
  out : wr.ownsRow w0.heap.size 22 1 o done.length xs
  rows : RowsO wr w0.heap.size xs done
  goes : done ++ splitGo g (l.drop k) ((brsOf l).deeps.drop k) (seg l a k) = splitOf l g
  low : Below w0.heap.size w0 wr

theorem br_none_brk {x : Tok} (h : x.brk = false) : x.br = none := by
  rcases br_ways x with ⟨h0, _⟩ | ⟨b, _, _, _, h1, _⟩ | ⟨b, _, _, _, h1, _⟩
  · exact h0
  · rw [h] at h1; cases h1
  · rw [h] at h1; cases h1

set_option maxRecDepth 100000 in
set_option maxHeartbeats 8000000 in
theorem gsplit_any (A : Option Addr) (c : Nat) (l : List Tok) (g : ByteArray) (w : World) (hl : mildT l) (hc : l.length ≤ c) (hh : HoldsT w A l) (hg : Listed w) :
    Calls Tryd.prog 11 #[.slice A l.length c, .string g] w (TellsTT w (splitRes l g).1 (splitRes l g).2) := by
  obtain ⟨i0, hi0, hz0, hz1, hz2⟩ := info_parts infoToks
  obtain ⟨bq, he⟩ := hg.err
  have HM := Lib.hid (fun u hu hv => match_any A c l bq u hl hu hv)
  obtain ⟨hl1, hl2⟩ := hl
  have HI := Lib.hid (fun x u => isSign_any x g u)
  have HK := Lib.hid (fun x u hx => isBracket_any x u hx)
  have HCl := Lib.hid clone_any
  go_enter Tryd.func11, Tryd.ntmps11
  go_wp2_with fail
  refine (HM.out _ hh he).mono ?_
  rintro e w1 ⟨a, dv, pv, ev, rfl, hb1, c2, c4, ⟨h0, rfl, -, B1, d1, rfl, hD⟩ | ⟨h0, p, v, rfl, hv⟩⟩
  · have hlen := (brsOf_len h0).2
    have HD := Lib.hid hD
    have HR : Hid (splitRes l g = (splitOf l g, 0)) := Lib.hid (by unfold splitRes; rw [if_pos h0])
    have HB := Lib.hid hb1
    have HH := Lib.hid (hh.below HB.out)
    clear hD hb1 h0 HM
    unfold deepsOf at HD
    generalize hDD : (brsOf l).deeps = D at *
    go_wp2_with fail
    go_loopw [8, 9, 29] (fun o a i wr => ∃ (k f : Nat) (xs : List Value) (done : List (List Tok)), i = .int .i64 k ∧ a = .int .i64 f ∧ GSplitAt l g w1 wr o f k xs done)
      (fun _ _ i _ => l.length - (intOf i).toNat)
    case atStart => exact ⟨0, 0, [], [], rfl, rfl, by omega, by omega, by simp, World.ownsRow_nil _ _ _ _, RowsO.nil _ _, by unfold splitOf; simp [seg], Below.refl _ _⟩
    case round =>
      obtain ⟨k, f, xs, done, rfl, rfl, hle, hf, hfew, hout, hrows, hgoes, hlow⟩ := hrel
      rw [hDD] at hgoes
      have Hlow := Lib.hid hlow
      have hsz := hlow.size
      have Hrows := Lib.hid hrows
      have Hout := Lib.hid hout
      by_cases hlt : k < l.length
      · have hx : l[k]? = some l[k] := List.getElem?_eq_getElem hlt
        have hkD : k < D.length := by rw [hlen]; exact hlt
        have hd : D[k]? = some D[k] := List.getElem?_eq_getElem hkD
        obtain ⟨bd, od, rfl, cd⟩ := (HD.out.below hlow) k (D[k] : Int) (by rw [List.getElem?_map, hd]; rfl)
        have Hyes := Lib.hid (fun (h1 : D[k] = 0) h2 h3 => split_yes (g := g) (a := f) (done := done) hx (hd.trans (congrArg some h1)) h2 h3 hgoes)
        have Hno := Lib.hid (fun hn => split_no (g := g) (a := f) (done := done) hx hd hf hn hgoes)
        obtain ⟨b, off, rfl, c1, c2, c3⟩ := (HH.out.below hlow) k l[k] hx
        have hgl := (hl2 k _ hx).2
        have lb := cell_lt c1
        have lbd := cell_lt cd
        simp only at lb lbd
        have hlow1 := Lib.hid ((hlow.alloc hsz (.cells #[.int .i64 l[k].kind, .string l[k].text, .string l[k].glyph] 30)))
        have hout1 := Lib.hid (hout.alloc (.cells #[.int .i64 l[k].kind, .string l[k].text, .string l[k].glyph] 30))
        have hrows1 := Lib.hid (hrows.below ((Below.refl _ _).alloc (Nat.le_refl _) (.cells #[.int .i64 l[k].kind, .string l[k].text, .string l[k].glyph] 30)))
        clear hd hx hgoes hlow hrows hout
        generalize l[k] = x at *
        generalize D[k] = d at *
        by_cases hd0 : d = 0
        · subst hd0
          have HI1 := Lib.hid (HI.out x)
          have HK1 := Lib.hid (fun u => HK.out x u (by unfold maxLen; omega))
          unfold Tok.val at HI1 HK1
          go_wp2_with fail
          refine (HI1.out _).mono ?_
          rintro r w2 ⟨rfl, hb⟩
          have hnx : w2.heap[wr.heap.size]? = some (.cells #[.int .i64 x.kind, .string x.text, .string x.glyph] 30 (0, 0)) := (hb.block _ (by simp)).trans (heap_alloc_new wr _)
          have hout2 := Lib.hid (own_below hout1.out hb)
          have hrows2 := Lib.hid (hrows1.out.below hb)
          have hlow2 := Lib.hid (hlow1.out.trans (hb.mono hlow1.out.size))
          have cx0 : w2.cell? ⟨wr.heap.size, 0, none⟩ = some (.int .i64 x.kind) := by simp [World.cell?, hnx]
          have cx1 : w2.cell? ⟨wr.heap.size, 1, none⟩ = some (.string x.text) := by simp [World.cell?, hnx]
          have cx2 : w2.cell? ⟨wr.heap.size, 2, none⟩ = some (.string x.glyph) := by simp [World.cell?, hnx]
          clear hb c1 c2 c3 Hout Hlow HI1 cd hout1 hlow1 hrows1 hnx
          cases hs : x.isSign g with
          | false =>
            have Z := Lib.hid (Hno.out (fun h => by rw [hs] at h; cases h.2.1))
            clear hs
            go_wp2_with fail
            go_roundw
            case rel => exact ⟨k + 1, f, xs, done, by go_num, rfl, by omega, by omega, by omega, hout2.out, hrows2.out, by rw [hDD]; exact Z.out, hlow2.out⟩
            case measure => simp [intOf]; omega
          | true =>
            go_wp2_with fail
            refine (HK1.out _).mono ?_
            rintro r w3 ⟨rfl, hb⟩
            have hout3 := Lib.hid (own_below hout2.out hb)
            have hrows3 := Lib.hid (hrows2.out.below hb)
            have hlow3 := Lib.hid (hlow2.out.trans (hb.mono hlow2.out.size))
            clear hb hout2 hrows2 hlow2 cx0 cx1 cx2 HK1
            cases hk : x.brk with
            | true =>
              have Z := Lib.hid (Hno.out (fun h => by
                rcases br_ways x with ⟨_, _, _, h1, _⟩ | ⟨b, h1, _⟩ | ⟨b, h1, _⟩
                · rw [hk] at h1; cases h1
                · rw [h.2.2] at h1; cases h1
                · rw [h.2.2] at h1; cases h1))
              clear hk hs
              go_wp2_with fail
              go_roundw
              case rel => exact ⟨k + 1, f, xs, done, by go_num, rfl, by omega, by omega, by omega, hout3.out, hrows3.out, by rw [hDD]; exact Z.out, hlow3.out⟩
              case measure => simp [intOf]; omega
            | false =>
              have Z := Lib.hid (Hyes.out (by simp) hs (br_none_brk hk))
              have f1 : (f : Int) ≤ (k : Int) := by omega
              have f2 : (k : Int) ≤ (c : Int) := by omega
              have f3 : (0 : Int) ≤ (f : Int) := by omega
              have f4 : ((k : Int) - (f : Int)).toNat = k - f := by omega
              by_cases hkf : k = f
              · have hsl : seg l f k = [] := List.eq_nil_of_length_eq_zero (by rw [seg_len (by omega)]; omega)
                have Hsl : Hid ((seg l f k).length = 0) := Lib.hid (by rw [hsl]; rfl)
                have HC1 := Lib.hid (HCl.out (some ⟨b, off, none⟩) 0 [] w3 (by simp) (HoldsT.nil _ _))
                rw [← hsl, Hsl.out] at HC1
                have e1 : k - f = 0 := by omega
                rw [e1] at f4
                clear hk hs hsl
                go_wp2_with fail
                refine HC1.out.mono ?_
                rintro r w4 ⟨v, rfl, hv, hb4⟩
                obtain ⟨A6, c6, rfl⟩ := owns_slice hv
                have hout4 := Lib.hid (own_below hout3.out hb4)
                have hlow4 := Lib.hid (hlow3.out.trans (hb4.mono hlow3.out.size))
                have hrows4 := Lib.hid ((hrows3.out.below hb4).snoc (p := seg l f k) (by rw [Hsl.out]; exact own_mono hv hlow3.out.size))
                have lt4 := hlow4.out.size
                have ge4 := ownBlock_ge hout4.out
                clear hv hb4 hout3 hlow3 hrows3 HC1
                go_wp2_with (at_builtin; go_must (refine wpList_append_own _ rfl _ _ 36 rfl w1.heap.size 22 i0 _ 1 24 Tryd.underlying36 hi0 hz0 hz1 hz2 rfl (by decide) u8 done.length xs rfl (hout4.out.alloc _) ⟨w4.heap.size, 0, none⟩ 1 1 [.slice A6 0 c6] rfl rfl (cell_one_new _ _ _) (by simp [Value.oneCell']) (by unfold maxLen; omega) (by omega) (by simp; omega) ?_); go_must (intro v1 w5 hout5 hg5 _))
                go_roundw
                case rel => exact ⟨k + 1, k + 1, _, done ++ [seg l f k], by go_num, by go_num, by omega, by omega, by simp; omega, by simpa using hout5, (hrows4.out.below ((Below.refl _ _).alloc (Nat.le_refl _) _)).grown (hout4.out.alloc _) hg5, by rw [hDD]; exact Z.out, (hlow4.out.alloc lt4 _).grown hg5 (by simp; omega) ge4⟩
                case measure => simp [intOf]; omega
              · have hp : HoldsT w3 (some ⟨b, off + f * 3, none⟩) (seg l f k) := (HH.out.below hlow3.out).seg f k
                have hsl := seg_len (l := l) (a := f) (b := k) (by omega)
                have HC1 := Lib.hid (HCl.out (some ⟨b, off + f * 3, none⟩) (k - f) (seg l f k) w3 (by omega) hp)
                rw [hsl] at HC1
                have Hsl := Lib.hid hsl
                clear hk hs hp hsl
                go_wp2_with fail
                refine HC1.out.mono ?_
                rintro r w4 ⟨v, rfl, hv, hb4⟩
                obtain ⟨A6, c6, rfl⟩ := owns_slice hv
                have hout4 := Lib.hid (own_below hout3.out hb4)
                have hlow4 := Lib.hid (hlow3.out.trans (hb4.mono hlow3.out.size))
                have hrows4 := Lib.hid ((hrows3.out.below hb4).snoc (p := seg l f k) (by rw [Hsl.out]; exact own_mono hv hlow3.out.size))
                have lt4 := hlow4.out.size
                have ge4 := ownBlock_ge hout4.out
                clear hv hb4 hout3 hlow3 hrows3 HC1
                go_wp2_with (at_builtin; go_must (refine wpList_append_own _ rfl _ _ 36 rfl w1.heap.size 22 i0 _ 1 24 Tryd.underlying36 hi0 hz0 hz1 hz2 rfl (by decide) u8 done.length xs rfl (hout4.out.alloc _) ⟨w4.heap.size, 0, none⟩ 1 1 [.slice A6 (k - f) c6] rfl rfl (cell_one_new _ _ _) (by simp [Value.oneCell']) (by unfold maxLen; omega) (by omega) (by simp; omega) ?_); go_must (intro v1 w5 hout5 hg5 _))
                go_roundw
                case rel => exact ⟨k + 1, k + 1, _, done ++ [seg l f k], by go_num, by go_num, by omega, by omega, by simp; omega, by simpa using hout5, (hrows4.out.below ((Below.refl _ _).alloc (Nat.le_refl _) _)).grown (hout4.out.alloc _) hg5, by rw [hDD]; exact Z.out, (hlow4.out.alloc lt4 _).grown hg5 (by simp; omega) ge4⟩
                case measure => simp [intOf]; omega
        · have q0 : ((d : Int) == 0) = false := by simp; omega
          have Z := Lib.hid (Hno.out (fun h => hd0 h.1))
          clear hd0
          go_wp2_with fail
          go_roundw
          case rel => exact ⟨k + 1, f, xs, done, by go_num, rfl, by omega, by omega, by omega, hout1.out, hrows1.out, by rw [hDD]; exact Z.out, hlow1.out⟩
          case measure => simp [intOf]; omega
      · obtain rfl : k = l.length := by omega
        have Z := Lib.hid (split_end hgoes)
        have Hfin : Hid (∀ (v1 : Value) (w5 : World) (ys : List Value), w5.ownsRow w1.heap.size 22 1 v1 (done.length + 1) ys → RowsO w5 w1.heap.size ys (done ++ [seg l f l.length]) → Below w1.heap.size w1 w5 →
            TellsTT w (splitRes l g).1 (splitRes l g).2 (.returned (.tuple #[v1, .int .i64 0])) w5) := Lib.hid (fun v1 w5 ys ho hr5 hb5 => by
          obtain ⟨B, d, rfl, hn, hH, hcap⟩ := holdsTT_of_own ho hr5.rows
          rw [Z.out] at hH hn
          exact TellsTT.mk B d _ (by rw [HR.out, ← Z.out]) (by rw [HR.out]) (by rw [HR.out]; exact hH) (HB.out.trans (hb5.mono HB.out.size)))
        clear hgoes hlow hrows
        have f1 : (f : Int) ≤ (l.length : Int) := by omega
        have f2 : (l.length : Int) ≤ (c : Int) := by omega
        have f3 : (0 : Int) ≤ (f : Int) := by omega
        have f4 : ((l.length : Int) - (f : Int)).toNat = l.length - f := by omega
        have f5 : ((c : Int) - (f : Int)).toNat = c - f := by omega
        by_cases hcf : c = f
        · have hsl : seg l f l.length = [] := List.eq_nil_of_length_eq_zero (by rw [seg_len (by omega)]; omega)
          have Hsl : Hid ((seg l f l.length).length = 0) := Lib.hid (by rw [hsl]; rfl)
          have e1 : l.length - f = 0 := by omega
          have e2 : c - f = 0 := by omega
          rw [e1] at f4
          rw [e2] at f5
          have HC1 := Lib.hid (HCl.out A 0 [] wr (by simp) (HoldsT.nil _ _))
          rw [← hsl, Hsl.out] at HC1
          clear hsl
          go_wp2_with fail
          refine HC1.out.mono ?_
          rintro r w4 ⟨v, rfl, hv, hb4⟩
          obtain ⟨A6, c6, rfl⟩ := owns_slice hv
          have hout4 := own_below hout hb4
          have hlow4 := Lib.hid (Hlow.out.trans (hb4.mono Hlow.out.size))
          have hrows4 := (Hrows.out.below hb4).snoc (p := seg l f l.length) (by rw [Hsl.out]; exact own_mono hv Hlow.out.size)
          have lt4 := hlow4.out.size
          have ge4 := ownBlock_ge hout4
          clear hv hb4
          go_wp2_with (at_builtin; go_must (refine wpList_append_own _ rfl _ _ 36 rfl w1.heap.size 22 i0 _ 1 24 Tryd.underlying36 hi0 hz0 hz1 hz2 rfl (by decide) u8 done.length xs rfl (hout4.alloc _) ⟨w4.heap.size, 0, none⟩ 1 1 [.slice A6 0 c6] rfl rfl (cell_one_new _ _ _) (by simp [Value.oneCell']) (by unfold maxLen; omega) (by omega) (by simp; omega) ?_); go_must (intro v1 w5 hout5 hg5 _))
          go_ret2
          exact Hfin.out _ _ _ hout5 ((hrows4.below ((Below.refl _ _).alloc (Nat.le_refl _) _)).grown (hout4.alloc _) hg5) ((hlow4.out.alloc lt4 _).grown hg5 (by simp; omega) ge4)
        · have hp : HoldsT wr (A.map fun a => a.add (f * 3)) (seg l f l.length) := by
            by_cases hn : f < l.length
            · obtain ⟨b, off, e, _⟩ := HH.out 0 _ (List.getElem?_eq_getElem (show 0 < l.length by omega))
              have h2 : (A.map fun a => a.add (f * 3)) = some ⟨b, off + f * 3, none⟩ := by rw [e]; simp [Addr.add_lit]
              rw [h2]
              have h3 := HH.out.below Hlow.out
              rw [e] at h3
              exact h3.seg f l.length
            · have : seg l f l.length = [] := List.eq_nil_of_length_eq_zero (by rw [seg_len (Nat.le_refl _)]; omega)
              rw [this]
              exact HoldsT.nil _ _
          have hsl := seg_len (l := l) (a := f) (b := l.length) (by omega)
          have HC1 := Lib.hid (HCl.out (A.map fun a => a.add (f * 3)) (c - f) (seg l f l.length) wr (by omega) hp)
          rw [hsl] at HC1
          have Hsl := Lib.hid hsl
          clear hp hsl
          go_wp2_with fail
          refine HC1.out.mono ?_
          rintro r w4 ⟨v, rfl, hv, hb4⟩
          obtain ⟨A6, c6, rfl⟩ := owns_slice hv
          have hout4 := own_below hout hb4
          have hlow4 := Lib.hid (Hlow.out.trans (hb4.mono Hlow.out.size))
          have hrows4 := (Hrows.out.below hb4).snoc (p := seg l f l.length) (by rw [Hsl.out]; exact own_mono hv Hlow.out.size)
          have lt4 := hlow4.out.size
          have ge4 := ownBlock_ge hout4
          clear hv hb4
          go_wp2_with (at_builtin; go_must (refine wpList_append_own _ rfl _ _ 36 rfl w1.heap.size 22 i0 _ 1 24 Tryd.underlying36 hi0 hz0 hz1 hz2 rfl (by decide) u8 done.length xs rfl (hout4.alloc _) ⟨w4.heap.size, 0, none⟩ 1 1 [.slice A6 (l.length - f) c6] rfl rfl (cell_one_new _ _ _) (by simp [Value.oneCell']) (by unfold maxLen; omega) (by omega) (by simp; omega) ?_); go_must (intro v1 w5 hout5 hg5 _))
          go_ret2
          exact Hfin.out _ _ _ hout5 ((hrows4.below ((Below.refl _ _).alloc (Nat.le_refl _) _)).grown (hout4.alloc _) hg5) ((hlow4.out.alloc lt4 _).grown hg5 (by simp; omega) ge4)
  · have hd : Hid (splitRes l g = ([], codeOf l)) := Lib.hid (by unfold splitRes; rw [if_neg h0])
    have hgt := (hg.below hb1).type_
    have HT := Lib.hid (told_any (codeOf l) p v hv w1 hgt)
    clear h0
    go_wp2_with fail
    refine HT.out.mono ?_
    rintro e w2 ⟨rfl, hb2⟩
    go_wp2_with fail
    go_ret2
    exact TellsTT.mk none 0 0 (by rw [hd.out]; rfl) (by rw [hd.out]) (by rw [hd.out]; exact HoldsTT.nil _ _) (hb1.trans (hb2.mono hb1.size))
end Go.Proofs.YtlokkdbgihbnhabDoor
