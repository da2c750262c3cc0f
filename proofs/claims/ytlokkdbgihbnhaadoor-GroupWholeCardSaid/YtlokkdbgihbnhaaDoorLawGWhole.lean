/-
  The law GroupWhole: true.
-/
import Derived.Test.YtlokkdbgihbnhaaDoorProg
import Derived.Test.YtlokkdbgihbnhaaDoorReg
import Derived.WalkKit
import Derived.WalkSpells
import Derived.WalkLawsBesides
import Derived.Lib.Hide
import Derived.Lib.MinMax
import Derived.Deep.QuietTactic
import Derived.BigQuiet
import Derived.OwnWalk
import Derived.Deep.AppendLies
import Derived.KernelRfl
import Derived.Laws.Rows
import Derived.Test.YtlokkdbgihbnhaaDoorGrpSh
import Derived.Test.YtlokkdbgihbnhaaDoorGrpAp
import Derived.Test.YtlokkdbgihbnhaaDoorLawGParts
set_option linter.unusedSimpArgs false
set_option linter.unusedVariables false
namespace Go.Proofs.YtlokkdbgihbnhaaDoor
open Go Go.RowKit

/-- What lies behind a part: nothing, if none follows; a sign and the rest. -/
def After (rem : List Tok) (qs : List (List Tok)) : Prop := (qs = [] ∧ rem = []) ∨ ∃ x r, rem = x :: r ∧ Joined r qs
theorem joined_cons {r p : List Tok} {qs : List (List Tok)} (h : Joined r (p :: qs)) : ∃ rem, r = p ++ rem ∧ After rem qs := by
  cases qs with
  | nil =>
    simp only [Joined] at h
    exact ⟨[], by simp [h], Or.inl ⟨rfl, rfl⟩⟩
  | cons q qs =>
    obtain ⟨x, r', h1, h2⟩ := h
    exact ⟨x :: r', h1, Or.inr ⟨x, r', rfl, h2⟩⟩
theorem joined_nil {r : List Tok} (h : Joined r []) : False := by simp [Joined] at h

/-- Where round i stands. -/
structure WholeAt (l : List Tok) (ps : List (List Tok)) (i : Nat) (pre rem : List Tok) (qs : List (List Tok)) : Prop where
  cut : l = pre ++ rem
  parts : ps.drop i = qs
  at_ : (i = 0 ∧ pre = [] ∧ Joined rem qs) ∨ (0 < i ∧ After rem qs)

theorem whole_first {l : List Tok} {ps qs : List (List Tok)} {pre rem p : List Tok} {i : Nat} (h : WholeAt l ps i pre rem (p :: qs)) (h0 : i = 0) : ∃ rem', WholeAt l ps (i + 1) p rem' qs ∧ pre = [] := by
  obtain ⟨h1, h2, h3 | h3⟩ := h
  · obtain ⟨rem', e1, e2⟩ := joined_cons h3.2.2
    refine ⟨rem', ⟨by rw [h1, h3.2.1, e1]; rfl, ?_, Or.inr ⟨by omega, e2⟩⟩, h3.2.1⟩
    rw [← List.drop_drop, h2]
    rfl
  · omega
theorem whole_next {l : List Tok} {ps qs : List (List Tok)} {pre rem p : List Tok} {i : Nat} (h : WholeAt l ps i pre rem (p :: qs)) (h0 : 0 < i) : ∃ x rem', l[pre.length]? = some x ∧ WholeAt l ps (i + 1) (pre ++ [x] ++ p) rem' qs := by
  obtain ⟨h1, h2, h3 | h3⟩ := h
  · omega
  · rcases h3.2 with ⟨e, _⟩ | ⟨x, r, rfl, hj⟩
    · cases e
    · obtain ⟨rem', e1, e2⟩ := joined_cons hj
      refine ⟨x, rem', by rw [h1]; simp, ⟨by rw [h1, e1]; simp, ?_, Or.inr ⟨by omega, e2⟩⟩⟩
      rw [← List.drop_drop, h2]
      rfl
theorem whole_end {l : List Tok} {ps : List (List Tok)} {pre rem : List Tok} {i : Nat} (h : WholeAt l ps i pre rem []) : pre = l := by
  obtain ⟨h1, h2, h3 | h3⟩ := h
  · exact (joined_nil h3.2.2).elim
  · rcases h3.2 with ⟨_, e⟩ | ⟨x, r, rfl, hj⟩
    · rw [h1, e]; simp
    · exact (joined_nil hj).elim
theorem mild_part {l p : List Tok} {ps : List (List Tok)} (hm : mildT l) : ∀ {l ps}, Joined l ps → mildT l → ∀ p ∈ ps, mildT p := by
  intro l ps
  induction ps generalizing l with
  | nil => intro h; exact (joined_nil h).elim
  | cons q qs ih =>
    intro h hl p hp
    have sub : ∀ {a b : List Tok}, mildT (a ++ b) → mildT a ∧ mildT b := fun {a b} h => by
      refine ⟨⟨by have := h.1; simp at this; omega, fun k x hx => h.2 k x ?_⟩, by have := h.1; simp at this; omega, fun k x hx => h.2 (a.length + k) x ?_⟩
      · rw [List.getElem?_append_left (List.getElem?_eq_some_iff.1 hx).1]; exact hx
      · rw [List.getElem?_append_right (by omega)]; simpa using hx
    cases qs with
    | nil =>
      simp only [Joined] at h
      subst h
      simp at hp
      subst hp
      exact hl
    | cons q2 qs =>
      obtain ⟨x, r, rfl, hj⟩ := h
      rcases List.mem_cons.1 hp with rfl | hp
      · exact (sub hl).1
      · have h2 := (sub hl).2
        have h3 := (sub (a := [x]) (b := r) h2).2
        exact ih hj h3 p hp
theorem whole_le {l : List Tok} {ps qs : List (List Tok)} {pre rem : List Tok} {i : Nat} (h : WholeAt l ps i pre rem qs) : pre.length ≤ l.length := by rw [h.cut]; simp

set_option maxRecDepth 100000 in
set_option maxHeartbeats 8000000 in
theorem groupWhole_any (A : Option Addr) (c : Nat) (l0 : List Tok) (g : ByteArray) (w : World) (hl0 : l0.length ≤ maxLen) (hs0 : ∀ (k : Nat) (x : Tok), l0[k]? = some x → x.text.size ≤ maxLen ∧ x.glyph.size ≤ maxLen) (hh0 : HoldsT w A l0) (hg0 : Listed w) :
    Calls Tryd.prog 4 #[.slice A l0.length c, .string g] w fun e w' => e = .returned (.bool true) ∧ Below w.heap.size w w' := by
  obtain ⟨i0, hi0, hz0, hz1, hz2⟩ := info_parts infoTok
  have HSh := Lib.hid (shown_any w hg0)
  have HF := Lib.hid (fun u hu => few_any A c l0 u hl0 hs0 hu)
  go_enter Tryd.func4, Tryd.ntmps4
  go_wp2_with fail
  refine HSh.out.mono ?_
  rintro e w1 ⟨rfl, hb1⟩
  have hh1 := hh0.below hb1
  have hg1 := hg0.below hb1
  clear HSh
  go_wp2_with fail
  refine (HF.out _ hh1).mono ?_
  rintro e w2 ⟨B, d, rfl, hT2, hd, hb2⟩
  have hm := mild_few l0
  have hb12 := hb1.trans (hb2.mono hb1.size)
  have hg2 := hg1.below hb2
  generalize few l0 = l at *
  clear HF hb1 hb2 hh1 hg1 hs0
  have H1 := Lib.hid (gsplit_any B d l g w2 hm hd hT2 hg2)
  by_cases h0 : codeOf l = 0
  · obtain ⟨hj, hps⟩ := whole_law g h0
    have hsr : splitRes l g = (splitOf l g, 0) := by unfold splitRes; rw [if_pos h0]
    rw [hsr] at H1
    have HW0 : Hid (WholeAt l (splitOf l g) 0 [] l (splitOf l g)) := Lib.hid ⟨rfl, rfl, Or.inl ⟨rfl, rfl, hj⟩⟩
    have HPs : Hid (∀ p ∈ splitOf l g, splitRes p g = ([p], 0) ∧ mildT p) := Lib.hid (fun p hp => by
      obtain ⟨h1, h2⟩ := hps p hp
      exact ⟨by unfold splitRes; rw [if_pos h1, h2], mild_part (l := l) (p := p) (ps := []) hm hj hm p hp⟩)
    have hpl := (joined_bounds hj).1
    have hl1 := hm.1
    clear hsr hj hps h0
    generalize splitOf l g = ps at *
    simp only at H1
    go_wp2_with fail
    refine H1.out.mono ?_
    rintro e w3 ⟨B3, d3, rfl, hP3, hb3⟩
    have HT3 := Lib.hid (hT2.below hb3)
    have HG3 := Lib.hid (hg2.below hb3)
    have HP3 := Lib.hid hP3
    have hb13 := Lib.hid (hb12.trans (hb3.mono hb12.size))
    clear H1 hb12 hb3 hT2 hg2 hP3 hm
    go_wp2_with fail
    go_loopw [8, 9, 10] (fun v n i wr => ∃ (k : Nat) (pre rem : List Tok) (qs : List (List Tok)), i = .int .i64 k ∧ n = .int .i64 pre.length ∧ k ≤ ps.length ∧ WholeAt l ps k pre rem qs ∧ wr.ownsRow w3.heap.size 31 3 v pre.length (tokCells pre) ∧ Below w3.heap.size w3 wr)
      (fun _ _ i _ => ps.length - (intOf i).toNat)
    case atStart => exact ⟨0, [], l, ps, rfl, rfl, by omega, HW0.out, World.ownsRow_nil _ _ _ _, Below.refl _ _⟩
    case round =>
      obtain ⟨k, pre, rem, qs, rfl, rfl, hk, hat, hown, hlow⟩ := hrel
      have hpre := whole_le hat
      by_cases hlt : k < ps.length
      · have hkx := List.getElem?_eq_getElem hlt
        obtain ⟨b3, o3, Bp, cp, rfl, cs0, hcp, hTp0⟩ := HP3.out k _ hkx
        have l30 := cell_lt cs0
        simp only at l30
        obtain ⟨hsp, hmp⟩ := HPs.out _ (List.getElem_mem hlt)
        have hqs : qs = ps[k] :: ps.drop (k + 1) := by rw [← hat.parts]; exact List.drop_eq_getElem_cons hlt
        rw [hqs] at hat
        generalize ps[k] = p at *
        have hpl2 := hmp.1
        have HC := Lib.hid (fun (u : World) (hb : Below w3.heap.size w3 u) => (hb.cell (p := ⟨b3, o3 + k, none⟩) l30).trans cs0)
        have HTu := Lib.hid (fun (u : World) (hb : Below w3.heap.size w3 u) => hTp0.below hb)
        have HS := Lib.hid (gsplit_any Bp cp p g wr hmp hcp (HTu.out wr hlow) (HG3.out.below hlow))
        rw [hsp] at HS
        simp only at HS
        have HAt := Lib.hid hat
        have hszr := hlow.size
        have cs := HC.out wr hlow
        have Hlow := Lib.hid hlow
        have Hown := Lib.hid hown
        clear hsp hqs hat hkx hlow hown hTp0 cs0
        go_wp2_with fail
        refine HS.out.mono ?_
        rintro e w4 ⟨B4, d4, rfl, -, hb4⟩
        have own4 := Lib.hid (own_below Hown.out hb4)
        have low4 := Lib.hid (Hlow.out.trans (hb4.mono hszr))
        have hsz4 := low4.out.size
        have ge4 := ownBlock_ge own4.out
        clear HS hb4 Hown Hlow cs
        by_cases hk0 : k = 0
        · obtain ⟨rem', hat', hpe⟩ := whole_first HAt.out hk0
          subst hpe hk0
          have HAt2 := Lib.hid hat'
          have HC' : ∀ u : World, Below w3.heap.size w3 u → u.cell? ⟨b3, o3, none⟩ = some (.slice Bp p.length cp) := fun u hb => by have := HC.out u hb; simpa using this
          have HC2 := Lib.hid HC'
          have cs4 := HC2.out w4 low4.out
          clear HC'
          have HT4 := Lib.hid (HTu.out w4 low4.out)
          have own4' : w4.ownsRow w3.heap.size 31 3 u8 0 [] := own4.out
          clear hat' own4 HAt
          go_wp2_with (at_builtin; refine wpList_append_toks (w := w4) rfl _ _ rfl rfl i0 _ hi0 hz0 hz1 hz2 rfl w3.heap.size u8 0 [] rfl own4' Bp cp p rfl HT4.out (by omega) (by omega) hsz4 ?_; intro v1 w5 r2 r3; rw [Nat.zero_add, List.nil_append] at r2; have low5 : Hid (Below w3.heap.size w3 w5) := Lib.hid (low4.out.grown r3 hsz4 ge4); have cs5 := HC2.out w5 low5.out; obtain ⟨A6, c6, rfl⟩ := owns_slice r2)
          go_roundw
          case rel => exact ⟨1, p, rem', _, by go_num, by go_num, by omega, HAt2.out, r2, low5.out⟩
          case measure => simp [intOf]; omega
        · have hk1 : 0 < k := by omega
          have hki : (0 : Int) < (k : Int) := by omega
          obtain ⟨x, rem', hx, hat'⟩ := whole_next HAt.out hk1
          have hxl : pre.length < l.length := (List.getElem?_eq_some_iff.1 hx).1
          have HAt2 := Lib.hid hat'
          obtain ⟨b5, o5, rfl, x1, x2, x3⟩ := (HT3.out.below low4.out) pre.length x hx
          have hxi : ¬ (l.length : Int) ≤ (pre.length : Int) := by omega
          have hpn : (pre ++ [x] ++ p).length = pre.length + 1 + p.length := by simp only [List.length_append, List.length_cons, List.length_nil]
          clear hat' hx hk0 HAt
          go_wp2_with (first | (at_builtin; refine wpList_append_own _ rfl _ _ 22 rfl w3.heap.size 31 i0 _ 3 40 Tryd.underlying22 hi0 hz0 hz1 hz2 rfl (by decide) u8 pre.length (tokCells pre) rfl (own4.out.alloc _) ⟨w4.heap.size, 0, none⟩ 1 1 x.cells rfl rfl (World.news_of_block (cs := x.cells.toArray) (t := 31) (fr := (0, 0)) (heap_alloc_new w4 _)) (by simp [Tok.cells, Value.oneCell']) (by unfold maxLen; omega) (by omega) (by simp; omega) ?_; intro v1 w5 r2 r3 _; rw [← tokCells_append_one] at r2; have low5 : Hid (Below w3.heap.size w3 w5) := Lib.hid ((low4.out.alloc hsz4 _).grown r3 (by simp; omega) ge4); have hsz5 := low5.out.size; have ge5 := ownBlock_ge r2; have cs5 := HC.out w5 low5.out; obtain ⟨A6, c6, rfl⟩ := owns_slice r2) | (at_builtin; refine wpList_append_toks (w := w5) rfl _ _ rfl rfl i0 _ hi0 hz0 hz1 hz2 rfl w3.heap.size _ _ _ rfl r2 Bp cp p rfl (HTu.out w5 low5.out) (by omega) (by omega) hsz5 ?_; intro v2 w6 r4 r5; rw [← tokCells_append] at r4; have low6 : Hid (Below w3.heap.size w3 w6) := Lib.hid (low5.out.grown r5 hsz5 ge5); have cs6 := HC.out w6 low6.out; obtain ⟨A7, c7, rfl⟩ := owns_slice r4))
          go_roundw
          case rel => exact ⟨k + 1, pre ++ [x] ++ p, rem', _, by go_num, by rw [hpn]; go_num, by omega, HAt2.out, by rw [hpn]; exact r4, low6.out⟩
          case measure => simp [intOf]; omega
      · obtain rfl : k = ps.length := by omega
        have hq : qs = [] := by rw [← hat.parts]; simp
        rw [hq] at hat
        have hpe := whole_end hat
        obtain ⟨Be, de, hbe, _, hHe, _⟩ := holdsT_of_own hown
        subst hbe
        have HSm : Hid (Calls Tryd.prog 19 #[.slice Be l.length de, .slice B l.length d] wr fun r w' => r = .returned (.bool true) ∧ ∃ n, w' = wr.drewN n) := Lib.hid (by
          rw [hpe] at hHe
          simpa using same_any Be B de d l l wr (by omega) (by omega) hHe (HT3.out.below hlow))
        have Hlow := Lib.hid (hb13.out.trans (hlow.mono hb13.out.size))
        rw [hpe]
        clear hat hown hHe hlow hpre
        go_wp2_with fail
        refine HSm.out.mono ?_
        rintro e w5 ⟨rfl, n5, rfl⟩
        go_wp2_with fail
        go_ret
        exact ⟨rfl, below_drewN Hlow.out _⟩
  · have hsr : splitRes l g = ([], codeOf l) := by unfold splitRes; rw [if_neg h0]
    rw [hsr] at H1
    have q1 : (codeOf l == 0) = false := by simpa using h0
    have q2 : (codeOf l != 0) = true := by rw [bne, q1]; rfl
    clear hsr h0
    generalize codeOf l = cl at *
    simp only at H1
    go_wp2_with fail
    refine H1.out.mono ?_
    rintro e w3 ⟨B3, d3, rfl, -, hb3⟩
    go_wp2_with fail
    go_ret
    exact ⟨rfl, hb12.trans (hb3.mono hb12.size)⟩
end Go.Proofs.YtlokkdbgihbnhaaDoor
