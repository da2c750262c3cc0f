/-
  Parts, insides, by the document's program text; are two lists of lists the same.
-/
import Derived.Test.YtlokkdbgihbnhaaDoorProg
import Derived.Test.YtlokkdbgihbnhaaDoorReg
import Derived.WalkKit
import Derived.WalkSpells
import Derived.WalkLawsBesides
import Derived.Lib.Hide
import Derived.Lib.MinMax
import Derived.Deep.QuietTactic
import Derived.BigQuiet
import Derived.OwnWalk
import Derived.Deep.AppendLies
import Derived.KernelRfl
import Derived.ArgAppend
import Derived.Maps.AppendAt
import Derived.Laws.Rows
import Derived.Test.YtlokkdbgihbnhaaDoorGrpRa
set_option linter.unusedSimpArgs false
set_option linter.unusedVariables false
namespace Go.Proofs.YtlokkdbgihbnhaaDoor
open Go.RowKit

theorem infoToks : (Tryd.prog.info? 22).map (fun i => (i.zero, i.size, i.bytes)) = some (some (.slice none 0 0), 1, 24) := by kernel_rfl

theorem br_none_of {x : Tok} (h1 : x.opn = false) (h2 : x.cls = false) : x.br = none := by
  rcases br_ways x with ⟨h, _⟩ | ⟨b, _, h, _⟩ | ⟨b, _, _, h, _⟩
  · exact h
  · rw [h1] at h; cases h
  · rw [h2] at h; cases h

structure RSplitAt (l : List Tok) (g : ByteArray) (w0 wr : World) (o : Value) (a : Nat) (k : Nat) (xs : List Value) (done : List (List Tok)) : Prop where
  le : k ≤ l.length
  from_ : a ≤ k
  few : done.length ≤ k
  out : wr.ownsRow w0.heap.size 22 1 o done.length xs
  rows : RowsT w0 xs done
  goes : done ++ splitGo g (l.drop k) ((brsOf l).deeps.drop k) (seg l a k) = splitOf l g
  low : Below w0.heap.size w0 wr

set_option maxRecDepth 100000 in
set_option maxHeartbeats 8000000 in
theorem rsplit_any (A : Option Addr) (c : Nat) (l : List Tok) (g : ByteArray) (w : World) (hl : mildT l) (hc : l.length ≤ c) (hh : HoldsT w A l) :
    Calls Tryd.prog 20 #[.slice A l.length c, .string g] w (TellsTT w (splitRes l g).1 (splitRes l g).2) := by
  obtain ⟨i0, hi0, hz0, hz1, hz2⟩ := info_parts infoToks
  have HM := Lib.hid (fun u hu => rdeep_any A c l u hl hu)
  obtain ⟨hl1, hl2⟩ := hl
  have HO := Lib.hid ropens_any
  have HC := Lib.hid rcloses_any
  have HI := Lib.hid (fun x u => rIsSign_any x g u)
  go_enter Tryd.func20, Tryd.ntmps20
  go_wp2_with fail
  refine (HM.out _ hh).mono ?_
  rintro r w1 ⟨B1, d1, rfl, hD, hb1⟩
  by_cases h0 : codeOf l = 0
  · have hrun := (codeOf_ok h0).1
    have hlen := (brsOf_len h0).2
    rw [deepOf_yes h0] at hD ⊢
    have HD := Lib.hid hD
    have HR : Hid (splitRes l g = (splitOf l g, 0)) := Lib.hid (by unfold splitRes; rw [if_pos h0])
    have HB := Lib.hid hb1
    rw [h0]
    clear hD hrun hb1 h0 HM
    generalize hDD : (brsOf l).deeps = D at *
    rw [List.length_map] 
    go_wp2_with fail
    have HH := Lib.hid (hh.below HB.out)
    go_loopw [8, 9, 10] (fun o a i wr => ∃ (k f : Nat) (xs : List Value) (done : List (List Tok)), i = .int .i64 k ∧ a = .int .i64 f ∧ RSplitAt l g w1 wr o f k xs done)
      (fun _ _ i _ => l.length - (intOf i).toNat)
    case atStart => exact ⟨0, 0, [], [], rfl, rfl, by omega, by omega, by simp, World.ownsRow_nil _ _ _ _, RowsT.nil _, by unfold splitOf; simp [seg], Below.refl _ _⟩
    case round =>
      obtain ⟨k, f, xs, done, rfl, rfl, hle, hf, hfew, hout, hrows, hgoes, hlow⟩ := hrel
      rw [hDD] at hgoes
      have Hlow := Lib.hid hlow
      have hsz := hlow.size
      have Hrows := Lib.hid hrows
      have Hout := Lib.hid hout
      by_cases hlt : k < l.length
      · have hx : l[k]? = some l[k] := List.getElem?_eq_getElem hlt
        have hkD : k < D.length := by rw [hlen]; exact hlt
        have hd : D[k]? = some D[k] := List.getElem?_eq_getElem hkD
        have HT := Lib.hid (fun (u : World) (hb : Below w1.heap.size w1 u) => (HH.out.below hb) k l[k] hx)
        obtain ⟨bd, od, rfl, cd⟩ := (HD.out.below hlow) k (D[k] : Int) (by rw [List.getElem?_map, hd]; rfl)
        have Hyes := Lib.hid (fun (h1 : D[k] = 0) h2 h3 => split_yes (g := g) (a := f) (done := done) hx (hd.trans (congrArg some h1)) h2 h3 hgoes)
        have Hno := Lib.hid (fun hn => split_no (g := g) (a := f) (done := done) hx hd hf hn hgoes)
        obtain ⟨b, off, rfl, c1, c2, c3⟩ := HT.out wr hlow
        have n1 : (k : Int) < (D.length : Int) := by omega
        clear hd hx hgoes hlow hrows hout
        generalize l[k] = x at *
        generalize D[k] = d at *
        by_cases hd0 : d = 0
        · subst hd0
          have HI1 := Lib.hid (HI.out x)
          have HO1 := Lib.hid (HO.out x)
          have HC1 := Lib.hid (HC.out x)
          go_wp2_with fail
          refine (HI1.out _).mono ?_
          rintro r w2 ⟨rfl, hb⟩
          have hout2 := Lib.hid (own_below Hout.out hb)
          have hlow2 := Lib.hid (Hlow.out.trans (hb.mono hsz))
          obtain ⟨b', off', e', c1', c2', c3'⟩ := HT.out w2 hlow2.out
          cases e'
          clear hb c1 c2 c3 Hout Hlow HI1 cd
          cases hs : x.isSign g with
          | false =>
            have Z := Lib.hid (Hno.out (fun h => by rw [hs] at h; cases h.2.1))
            clear hs
            go_wp2_with fail
            go_roundw
            case rel => exact ⟨k + 1, f, xs, done, by go_num, rfl, by omega, by omega, by omega, hout2.out, Hrows.out, by rw [hDD]; exact Z.out, hlow2.out⟩
            case measure => simp [intOf]; omega
          | true =>
            go_wp2_with fail
            refine (HO1.out _).mono ?_
            rintro r w3 ⟨rfl, hb⟩
            have hout3 := Lib.hid (own_below hout2.out hb)
            have hlow3 := Lib.hid (hlow2.out.trans (hb.mono hlow2.out.size))
            obtain ⟨b4, off4, e4, d1, d2, d3⟩ := HT.out w3 hlow3.out
            cases e4
            clear hb c1' c2' c3' hout2 hlow2 HO1
            cases ho : x.opn with
            | true =>
              have Z := Lib.hid (Hno.out (fun h => by rw [(br_no h.2.2).1] at ho; cases ho))
              clear ho hs
              go_wp2_with fail
              go_roundw
              case rel => exact ⟨k + 1, f, xs, done, by go_num, rfl, by omega, by omega, by omega, hout3.out, Hrows.out, by rw [hDD]; exact Z.out, hlow3.out⟩
              case measure => simp [intOf]; omega
            | false =>
              go_wp2_with fail
              refine (HC1.out _).mono ?_
              rintro r w4 ⟨rfl, hb⟩
              have hout4 := Lib.hid (own_below hout3.out hb)
              have hlow4 := Lib.hid (hlow3.out.trans (hb.mono hlow3.out.size))
              clear hb d1 d2 d3 hout3 hlow3 HC1
              cases hcl : x.cls with
              | true =>
                have Z := Lib.hid (Hno.out (fun h => by rw [(br_no h.2.2).2.1] at hcl; cases hcl))
                clear ho hs hcl
                go_wp2_with fail
                go_roundw
                case rel => exact ⟨k + 1, f, xs, done, by go_num, rfl, by omega, by omega, by omega, hout4.out, Hrows.out, by rw [hDD]; exact Z.out, hlow4.out⟩
                case measure => simp [intOf]; omega
              | false =>
                have Z := Lib.hid (Hyes.out (by simp) hs (br_none_of ho hcl))
                have hp : HoldsT w1 (some ⟨b, off + f * 3, none⟩) (seg l f k) := HH.out.seg f k
                have hsl := seg_len (l := l) (a := f) (b := k) (by omega)
                have Hrows2 : Hid (RowsT w1 (xs ++ [.slice (some ⟨b, off + f * 3, none⟩) (k - f) (c - f)]) (done ++ [seg l f k])) := Lib.hid (by rw [← hsl]; exact Hrows.out.snoc (by omega) hp)
                have lt4 := hlow4.out.size
                have ge4 := ownBlock_ge hout4.out
                clear ho hs hcl hp hsl
                have f1 : (f : Int) ≤ (k : Int) := by omega
                have f2 : (k : Int) ≤ (c : Int) := by omega
                have f3 : (0 : Int) ≤ (f : Int) := by omega
                have f4 : ((k : Int) - (f : Int)).toNat = k - f := by omega
                have f5 : ((c : Int) - (f : Int)).toNat = c - f := by omega
                go_wp2_with (at_builtin; refine wpList_append_own _ rfl _ _ 34 rfl w1.heap.size 22 i0 _ 1 24 Tryd.underlying34 hi0 hz0 hz1 hz2 rfl (by decide) u8 done.length xs rfl (hout4.out.alloc _) ⟨w4.heap.size, 0, none⟩ 1 1 [.slice (some ⟨b, off + f * 3, none⟩) (k - f) (c - f)] rfl rfl (cell_one_new _ _ _) (by simp [Value.oneCell']) (by unfold maxLen; omega) (by omega) (by simp; omega) ?_; intro v1 w5 hout5 hg5 _)
                go_roundw
                case rel => exact ⟨k + 1, k + 1, _, done ++ [seg l f k], by go_num, by go_num, by omega, by omega, by simp; omega, by simpa using hout5, Hrows2.out, by rw [hDD]; exact Z.out, (hlow4.out.alloc lt4 _).grown hg5 (by simp; omega) ge4⟩
                case measure => simp [intOf]; omega
        · have q0 : ((d : Int) == 0) = false := by simp; omega
          have Z := Lib.hid (Hno.out (fun h => hd0 h.1))
          clear hd0
          go_wp2_with fail
          go_roundw
          case rel => exact ⟨k + 1, f, xs, done, by go_num, rfl, by omega, by omega, by omega, Hout.out, Hrows.out, by rw [hDD]; exact Z.out, Hlow.out⟩
          case measure => simp [intOf]; omega
      · obtain rfl : k = l.length := by omega
        have Z := Lib.hid (split_end hgoes)
        have hp : Hid (∀ (A2 : Option Addr), (f < l.length → A2 = A.map fun a => a.add (f * 3)) → HoldsT w1 A2 (seg l f l.length)) := Lib.hid (fun A2 hA => by
          by_cases hn : f < l.length
          · have h1 := hA hn
            obtain ⟨b, off, e, _⟩ := HH.out 0 _ (List.getElem?_eq_getElem (show 0 < l.length by omega))
            rw [e] at h1
            have h2 : A2 = some ⟨b, off + f * 3, none⟩ := by rw [h1]; simp [Addr.add_lit]
            rw [h2]
            have h3 := HH.out
            rw [e] at h3
            exact h3.seg f l.length
          · have : seg l f l.length = [] := List.eq_nil_of_length_eq_zero (by rw [seg_len (Nat.le_refl _)]; omega)
            rw [this]
            exact HoldsT.nil _ _)
        have hsl := seg_len (l := l) (a := f) (b := l.length) (by omega)
        have Hsl := Lib.hid hsl
        have lt4 := Hlow.out.size
        have ge4 := ownBlock_ge hout
        have Hfin : Hid (∀ (A2 : Option Addr) (v1 : Value) (w5 : World), (f < l.length → A2 = A.map fun a => a.add (f * 3)) → w5.ownsRow w1.heap.size 22 1 v1 (done.length + 1) (xs ++ [.slice A2 (l.length - f) (c - f)]) → Below w1.heap.size w1 w5 →
            TellsTT w (splitRes l g).1 (splitRes l g).2 (.returned (.tuple #[v1, .int .i64 0])) w5) := Lib.hid (fun A2 v1 w5 hA ho hb5 => by
          have hr5 : RowsT w1 (xs ++ [.slice A2 (l.length - f) (c - f)]) (done ++ [seg l f l.length]) := by
            rw [← Hsl.out]
            exact Hrows.out.snoc (by rw [Hsl.out]; omega) (hp.out A2 hA)
          obtain ⟨B, d, rfl, hn, hH, hcap⟩ := holdsTT_of_own ho (hr5.below hb5)
          rw [Z.out] at hH hn
          exact TellsTT.mk B d _ (by rw [HR.out, ← Z.out]) (by rw [HR.out]) (by rw [HR.out]; exact hH) (HB.out.trans (hb5.mono HB.out.size)))
        clear hgoes hlow hrows hsl hp
        have f1 : (f : Int) ≤ (l.length : Int) := by omega
        have f2 : (l.length : Int) ≤ (c : Int) := by omega
        have f3 : (0 : Int) ≤ (f : Int) := by omega
        have f4 : ((l.length : Int) - (f : Int)).toNat = l.length - f := by omega
        have f5 : ((c : Int) - (f : Int)).toNat = c - f := by omega
        by_cases hcf : c = f
        · have hlf : ¬ f < l.length := by omega
          have e1 : l.length - f = 0 := by omega
          have e2 : c - f = 0 := by omega
          rw [e1, e2] at Hfin
          rw [e1] at f4
          rw [e2] at f5
          go_wp2_with (at_builtin; refine wpList_append_own _ rfl _ _ 34 rfl w1.heap.size 22 i0 _ 1 24 Tryd.underlying34 hi0 hz0 hz1 hz2 rfl (by decide) u8 done.length xs rfl (hout.alloc _) ⟨wr.heap.size, 0, none⟩ 1 1 [.slice _ 0 0] rfl rfl (cell_one_new _ _ _) (by simp [Value.oneCell']) (by unfold maxLen; omega) (by omega) (by simp; omega) ?_; intro v1 w5 hout5 hg5 _)
          go_ret2
          exact Hfin.out _ _ _ (fun h => absurd h hlf) hout5 ((Hlow.out.alloc lt4 _).grown hg5 (by simp; omega) ge4)
        · go_wp2_with (at_builtin; refine wpList_append_own _ rfl _ _ 34 rfl w1.heap.size 22 i0 _ 1 24 Tryd.underlying34 hi0 hz0 hz1 hz2 rfl (by decide) u8 done.length xs rfl (hout.alloc _) ⟨wr.heap.size, 0, none⟩ 1 1 [.slice _ (l.length - f) (c - f)] rfl rfl (cell_one_new _ _ _) (by simp [Value.oneCell']) (by unfold maxLen; omega) (by omega) (by simp; omega) ?_; intro v1 w5 hout5 hg5 _)
          go_ret2
          exact Hfin.out _ _ _ (fun _ => rfl) hout5 ((Hlow.out.alloc lt4 _).grown hg5 (by simp; omega) ge4)
  · have q1 : (codeOf l == 0) = false := by simpa using h0
    have q2 : (codeOf l != 0) = true := by rw [bne, q1]; rfl
    have hd : Hid (splitRes l g = ([], codeOf l)) := Lib.hid (by unfold splitRes; rw [if_neg h0])
    clear h0
    go_wp2_with fail
    go_ret2
    exact TellsTT.mk none 0 0 (by rw [hd.out]; rfl) (by rw [hd.out]) (by rw [hd.out]; exact HoldsTT.nil _ _) hb1
end Go.Proofs.YtlokkdbgihbnhaaDoor
