/-
  The law RelexJoins: true.
-/
import Derived.Test.YtflpihedhccdfaaGreatDoorProg
import Derived.Test.YtflpihedhccdfaaGreatDoorReg
import Derived.WalkKit
import Derived.WalkSpells
import Derived.WalkLawsBesides
import Derived.Lib.Hide
import Derived.Lib.MinMax
import Derived.Deep.QuietTactic
import Derived.BigQuiet
import Derived.OwnWalk
import Derived.Deep.AppendLies
import Derived.KernelRfl
import Derived.ArgAppend
import Derived.Laws.OwnMore
import Derived.Test.YtflpihedhccdfaaGreatDoorRw7
set_option linter.unusedSimpArgs false
set_option linter.unusedVariables false
namespace Go.Proofs.YtflpihedhccdfaaGreatDoor
open Go Go.RowKit

set_option maxRecDepth 100000 in
set_option maxHeartbeats 8000000 in
theorem relexJoins_any (s : ByteArray) (l : List Act5) (A : Option Addr) (c : Nat) (a d : Addr) (w : World) (hs : s.size ≤ maxLen) (hl : l.length ≤ maxLen)
    (hsz : ∀ (k : Nat) (x : Act5), l[k]? = some x → x.s.size ≤ maxLen ∧ (-9223372036854775808 ≤ x.n ∧ x.n ≤ 9223372036854775807)) (hh : HoldsC w A l) (hT : Tabs w) (hL : Laid5 a d w) :
    Calls Tryz.prog 8 #[.string s, .slice A l.length c] w fun e w' => e = .returned (.bool true) ∧ Below w.heap.size w w' := by
  have HS := Lib.hid (shown_any a d w hT hL)
  have HC := Lib.hid (fun u => Cut_any s u hs)
  have hcs := cut4010_size s
  generalize cut4010 s = s0 at *
  by_cases hbig : 4000 < s0.size
  · have HN := Lib.hid (fun W (hb : Below w.heap.size w W) => New_full s0 a d W hbig (by unfold maxLen; omega) (hL.below hb))
    clear hT hL hs hsz hh hl
    go_enter Tryz.func8, Tryz.ntmps8
    go_wp2_with fail
    refine HS.out.mono ?_
    rintro e w1 ⟨rfl, hb1⟩
    have HNw := Lib.hid (HN.out _ hb1)
    go_wp2_with fail
    refine (HC.out _).mono ?_
    rintro e w2 ⟨rfl, rfl⟩
    go_wp2_with fail
    refine HNw.out.mono ?_
    rintro e w3 ⟨rfl, rfl⟩
    go_wp2_with fail
    go_ret
    exact ⟨rfl, hb1⟩
  · have hle : s0.size ≤ 4000 := by omega
    have HN := Lib.hid (fun W (hb : Below w.heap.size w W) => New_state s0 W hle (hT.below hb) w.heap.size hb.size)
    have HT := Lib.hid (fun W (hb : Below w.heap.size w W) => hT.below hb)
    have HL := Lib.hid (fun W (hb : Below w.heap.size w W) => hL.below hb)
    have HF := Lib.hid (fun W (hb : Below w.heap.size w W) => Few_any 20 A c l W (by omega) hl (fun k x hx => (hsz k x hx).1) (hh.below hb))
    obtain ⟨hLl, hLg⟩ := few_good hsz 20
    have HG := Lib.hid hLg
    clear hT hL hs hsz hh hl hLg hbig
    generalize fewTo5 l 20 = L at *
    go_enter Tryz.func8, Tryz.ntmps8
    go_wp2_with fail
    refine HS.out.mono ?_
    rintro e w1 ⟨rfl, hb1⟩
    have HNw := Lib.hid (HN.out _ hb1)
    have B1 := Lib.hid hb1
    have hz1 := hb1.size
    clear hb1 HS HN
    go_wp2_with fail
    refine (HC.out _).mono ?_
    rintro e w2 ⟨rfl, rfl⟩
    clear HC
    go_wp2_with fail
    refine HNw.out.mono ?_
    rintro e w3 ⟨rfl, hx3, hb3⟩
    have hB3 := B1.out.trans (hb3.mono hz1)
    have HFw := Lib.hid (HF.out w3 hB3)
    have HX3 := Lib.hid hx3
    have B3 := Lib.hid hB3
    clear hx3 hb3 hB3 HNw HF
    go_wp2_with fail
    refine HFw.out.mono ?_
    rintro e w4 ⟨v4, rfl, ho4, hb4⟩
    have HX4 := Lib.hid (HX3.out.below hb4)
    have B4 := Lib.hid (B3.out.trans (hb4.mono B3.out.size))
    have hX : w.heap.size ≤ w2.heap.size := hz1
    generalize w2.heap.size = X at *
    obtain ⟨D, dc, rfl⟩ := owns_slice ho4
    have HO4 := Lib.hid ho4
    clear ho4 hb4 HFw HX3 B3
    go_wp2_with fail
    go_loopw [8] (fun i wr => ∃ (k : Nat) (t : ByteArray) (q : Int), k ≤ L.length ∧ i = .int .i64 k ∧ Hid (StateL wr w.heap.size X X k t q) ∧ Hid (Below w.heap.size w wr) ∧ Hid (wr.ownsRow w3.heap.size 41 3 (.slice D L.length dc) L.length (actCells L))) (fun i _ => L.length - (intOf i).toNat)
    case atStart => exact ⟨0, _, _, by omega, rfl, HX4, B4, HO4⟩
    case round =>
      obtain ⟨k, t, q, hk, rfl, HX, HB, HO⟩ := hrel
      by_cases hlt : k < L.length
      · have hx := List.getElem?_eq_getElem hlt
        obtain ⟨hxs, hxn⟩ := HG.out k L[k] hx
        obtain ⟨D2, dc2, eD, -, hH, -⟩ := holdsC_of_own HO.out
        obtain ⟨rfl, rfl⟩ : D = D2 ∧ dc = dc2 := by cases eD; exact ⟨rfl, rfl⟩
        obtain ⟨b, off, rfl, c1, c2, c3⟩ := hH k L[k] hx
        generalize L[k] = x at *
        have HK := Lib.hid hx
        have HSt := Lib.hid (Splice_state w.heap.size X X k t q x.pos x.n x.s a d w wr.drew (HX.out.below (Below.refl _ _).drew) (by omega) hxs hxn (HT.out _ HB.out.drew) (HL.out _ HB.out.drew) HB.out.drew hX hX HB.out.size)
        clear hH hx eD
        go_wp2_with fail
        refine wp_region_ord (S := fun w' => w'.cell? ⟨b, off + k * 3, none⟩ = some (.int .i64 x.pos) ∧ w'.cell? ⟨b, off + k * 3 + 1, none⟩ = some (.int .i64 x.n) ∧ w'.cell? ⟨b, off + k * 3 + 2, none⟩ = some (.string x.s)) [0, 1, 2, 3, 4, 5, 6, 7, 8, 9, 10, 11, 12, 13, 14, 15] [16] (by kernel_rfl) (by kernel_rfl) (fun _ _ _ _ _ h => h) ⟨c1, c2, c3⟩ ?_
        simp only [pick, List.filterMap_cons, List.filterMap_nil, List.getElem?_toArray, List.getElem?_cons_zero, List.getElem?_cons_succ]
        repeat (refine wpHead_step (v := ?_) rfl ?_ ?_; rotate_left; (focus (rintro w1 ⟨d1, d2, d3⟩; go_simp; try with_reducible rfl)); simp only [Act.put, List.setIfInBounds_toArray, List.set_cons_zero, List.set_cons_succ])
        refine wpHead_nil ?_
        refine wpTail_step rfl (fun K hK => ?_)
        go_wp2_with fail
        refine HSt.out.mono ?_
        rintro e w5 ⟨rfl, hx5, hb5, hz5, hoth⟩
        have ho5 := hoth.own (show (World.drew wr).ownsRow _ _ _ _ _ _ from HO.out.drew) (by decide) (by decide)
        obtain ⟨D5, dc5, eD, -, hH5, -⟩ := holdsC_of_own ho5
        have hx2 : L[k]? = some x := HK.out
        obtain ⟨b5, off5, e5, d1, d2, d3⟩ := hH5 k x hx2
        cases eD
        cases e5
        have HX5 := Lib.hid hx5
        have B5 := Lib.hid hb5
        have HO5 := Lib.hid ho5
        clear hx5 hb5 hoth ho5 hH5 hx2 HSt hz5 c1 c2 c3
        go_wp2_with fail
        refine hK _ _ ⟨d1, d2, d3⟩ ?_
        clear hK K
        try simp only [Act.put, List.setIfInBounds_toArray, List.set_cons_zero, List.set_cons_succ]
        refine wpTail_nil ?_
        go_wp2_with fail
        go_roundw
        case rel => exact ⟨k + 1, _, _, by omega, by go_num, HX5, B5, HO5⟩
        case measure => simp [intOf]; omega
      · obtain rfl : k = L.length := by omega
        have hsize := HX.out.size
        have hb := HB.out
        have HTo := Lib.hid (fun W (h : IsLexB W X X t q) => TokensC X t q W h.is hsize)
        have HLi := Lib.hid (fun W (h : IsLexB W X X t q) => Lines_any X t q W h.is hsize)
        have HLn := Lib.hid (fun W (k : Nat) (p : ByteArray) (h : IsLexB W X X t q) (hp : (piecesB t)[k]? = some p) => LineC X t p q k W h.is hsize hp)
        have HLX := Lib.hid HX.out.lex
        have hlen := tokensS_len t
        have HTL := Lib.hid (show (tokensS t).length ≤ 5000 by omega)
        have hpl := pieces_le t
        have hup : ∀ k, (toksOf ((piecesB t).take k)).length ≤ 5000 := fun k => by
          have h1 := toksOf_len ((piecesB t).take k)
          have h2 : (((piecesB t).take k).map (fun s => s.size + 1)).sum ≤ ((piecesB t).map (fun s => s.size + 1)).sum := by
            conv => rhs; rw [← List.take_append_drop k (piecesB t), List.map_append, List.sum_append]
            omega
          have h3 := sum_join _ (pieces_ne t)
          rw [join_pieces, bytes_len] at h3
          omega
        have HUP := Lib.hid hup
        have hps : ∀ (k : Nat) (p : ByteArray), (piecesB t)[k]? = some p → (dLine p).length ≤ 5000 := fun k p hp => by
          have h1 := dLine_len p
          have h2 := piece_small hp
          omega
        have HPS := Lib.hid hps
        have hP : (piecesB t).length ≤ 4001 := by omega
        have HTD : Hid (toksOf (piecesB t) = tokensS t) := Lib.hid rfl
        obtain ⟨i0, hi0, hz0, hz1, hz2⟩ := info_parts infoTok
        clear hlen HX HO HG HT HL HX4 HO4 B4 hup hps hpl hb
        generalize hPP : piecesB t = P at *
        clear hPP
        obtain ⟨W0, rfl⟩ : ∃ W0, W0 = wr := ⟨wr, rfl⟩
        go_wp2_with fail
        go_loopw [9, 10] (fun v i wx => ∃ (j : Nat), j ≤ P.length ∧ i = .int .i64 (j : Int) ∧ Hid (wx.ownsRow W0.heap.size 55 3 v (toksOf (P.take j)).length (tokCells (toksOf (P.take j)))) ∧ Hid (Below W0.heap.size W0 wx)) (fun _ i _ => P.length - (intOf i).toNat)
        case atStart => exact ⟨0, Nat.zero_le _, rfl, Lib.hid (World.ownsRow_nil _ _ _ _), Lib.hid (Below.refl _ _)⟩
        case round =>
          obtain ⟨j, hj, rfl, HO, HBx⟩ := hrel
          have HXj := Lib.hid (HLX.out.below HBx.out)
          have S1 := Lib.hid (HLi.out wr HXj.out)
          have hsw := HBx.out.size
          by_cases hjl : j < P.length
          · have hx := List.getElem?_eq_getElem hjl
            have hul := HUP.out j
            have hpl := HPS.out j P[j] hx
            have hsn := toksOf_snoc (P.take j) P[j]
            rw [← take_one hx] at hsn
            have hnil : P.take j = [] ↔ j = 0 := by
              rw [← List.length_eq_zero_iff, List.length_take]; omega
            have hT10 : j = 0 → toksOf (P.take j) = [] := fun e => by subst e; rfl
            generalize P[j] = p at *
            obtain ⟨T2, hT2e⟩ : ∃ T, T = toksOf (P.take (j + 1)) := ⟨_, rfl⟩
            rw [← hT2e] at hsn
            have HT2e := Lib.hid hT2e
            generalize toksOf (P.take j) = T1 at *
            have hob := ownBlock_ge HO.out
            have c1 : (j : Int) < (P.length : Int) := by omega
            have c2 : (j : Int) < 4100 := by omega
            have SL := Lib.hid (fun W (hb : Below W0.heap.size W0 W) => HLn.out W j p (HLX.out.below hb) hx)
            by_cases h0 : j = 0
            · have hT2 : T2 = dLine p := by rw [hsn, if_pos (hnil.2 h0)]
              have hT1 : T1 = [] := hT10 h0
              have hgt : ¬ (0 : Int) < (j : Int) := by omega
              have HE := Lib.hid (And.intro hT1 hT2)
              clear hsn hnil hT10 h0 hT1 hT2 hx hT2e
              go_wp2_with fail
              refine S1.out.mono ?_
              rintro e w5 ⟨rfl, rfl⟩
              have S2 := Lib.hid (SL.out _ HBx.out)
              go_wp2_with fail
              refine S2.out.mono ?_
              rintro e w6 ⟨A6, c6, rfl, hH6, -, hb6⟩
              have HO6 := Lib.hid (own_below HO.out hb6)
              have HH6 := Lib.hid hH6
              have hz6 := hb6.size
              have HB6 := Lib.hid (HBx.out.trans (hb6.mono hsw))
              clear hH6 hb6 S1 S2 SL
              go_wp2_with (at_builtin; go_must (refine wpList_append_toks rfl _ _ rfl rfl i0 _ hi0 hz0 hz1 hz2 rfl W0.heap.size _ T1.length (tokCells T1) rfl HO6.out A6 c6 (dLine p) rfl HH6.out (by omega) (by omega) (by omega) ?_); go_must (intro v1 w3 hown3 hg3))
              go_roundw
              case rel =>
                refine ⟨j + 1, by omega, by go_num, Lib.hid ?_, Lib.hid (HB6.out.grown hg3 (by omega) hob)⟩
                rw [← HT2e.out, HE.out.2]
                rw [HE.out.1] at hown3
                simpa [tokCells] using hown3
              case measure => simp [intOf]; omega
            · have hT2 : T2 = T1 ++ endT :: dLine p := by rw [hsn, if_neg (fun e => h0 (hnil.1 e))]
              have hgt : (0 : Int) < (j : Int) := by omega
              have HE := Lib.hid hT2
              clear hsn hnil hT10 h0 hT2 hx hT2e
              have hbA := below_new wr (.cells #[.int .i64 11, .string ⟨#[10]⟩, .string ⟨#[]⟩] 55)
              have HO2 := Lib.hid (own_below HO.out hbA)
              have HBA := Lib.hid hbA
              clear hbA
              go_wp2_with fail
              refine S1.out.mono ?_
              rintro e w5 ⟨rfl, rfl⟩
              go_wp2_with (first
                | (at_builtin; go_must (refine wpList_append_own _ rfl _ _ 35 rfl W0.heap.size 55 i0 _ 3 40 Tryz.underlying35 hi0 hz0 hz1 hz2 rfl (by decide) u9 T1.length (tokCells T1) rfl HO2.out ⟨w5.heap.size, 0, none⟩ 1 1 [.int .i64 11, .string ⟨#[10]⟩, .string ⟨#[]⟩] rfl rfl (World.news_of_block (cs := #[.int .i64 11, .string ⟨#[10]⟩, .string ⟨#[]⟩]) (t := 55) (fr := (0, 0)) (heap_alloc_new w5 _)) (by simp [Value.oneCell']) (by unfold maxLen; omega) (by omega) (by simp; omega) ?_); go_must (intro v1 w3 hown3 hg3 _)))
              have hz3 := hg3.size
              simp only [World.size_alloc] at hz3
              have hb3 : Below W0.heap.size W0 w3 := (HBx.out.trans (HBA.out.mono hsw)).grown hg3 (by simp; omega) hob
              have S2 := Lib.hid (SL.out _ hb3)
              have HN3 := Lib.hid hown3
              have HB3 := Lib.hid hb3
              clear hg3 hown3 hb3 S1 SL
              go_wp2_with fail
              refine S2.out.mono ?_
              rintro e w6 ⟨A6, c6, rfl, hH6, -, hb6⟩
              have HO6 := Lib.hid (own_below HN3.out hb6)
              have HH6 := Lib.hid hH6
              have hz6 := hb6.size
              have HB6 := Lib.hid (HB3.out.trans (hb6.mono (by omega)))
              clear hH6 hb6 S2
              go_wp2_with (at_builtin; go_must (refine wpList_append_toks rfl _ _ rfl rfl i0 _ hi0 hz0 hz1 hz2 rfl W0.heap.size _ (T1.length + 1) _ rfl HO6.out A6 c6 (dLine p) rfl HH6.out (by omega) (by omega) (by omega) ?_); go_must (intro v4 w4 hown4 hg4))
              go_roundw
              case rel =>
                refine ⟨j + 1, by omega, by go_num, Lib.hid ?_, Lib.hid (HB6.out.grown hg4 (by omega) (ownBlock_ge HN3.out))⟩
                have e : tokCells (T1 ++ endT :: dLine p) = (tokCells T1 ++ [.int .i64 11, .string ⟨#[10]⟩, .string ⟨#[]⟩]) ++ tokCells (dLine p) := by
                  rw [tokCells_append, show endT :: dLine p = [endT] ++ dLine p from rfl, tokCells_append, tokCells_one, endT_cells, List.append_assoc]
                have el : (T1 ++ endT :: dLine p).length = T1.length + 1 + (dLine p).length := by simp; omega
                rw [← HT2e.out, HE.out, e, el]
                exact hown4
              case measure => simp [intOf]; omega
          · obtain rfl : j = P.length := by omega
            have ht : P.take P.length = P := List.take_length
            have ho := HO.out
            rw [ht, HTD.out] at ho
            obtain ⟨A5, c5, rfl, -, hH5, -⟩ := holdsT_of_own ho
            have c1 : ¬ ((P.length : Int) < (P.length : Int)) := by omega
            have S2 := Lib.hid (HTo.out _ HXj.out)
            have HH5 := Lib.hid hH5
            have HB5 := Lib.hid (HB.out.trans (HBx.out.mono HB.out.size))
            clear ht ho hH5 HO
            go_wp2_with fail
            refine S1.out.mono ?_
            rintro e w5 ⟨rfl, rfl⟩
            go_wp2_with fail
            refine S2.out.mono ?_
            rintro e w6 ⟨A6, c6, rfl, hH6, -, hb6⟩
            have S3 := refSame_any (tokensS t) (tokensS t) A5 A6 c5 c6 w6 (by have := HTL.out; omega) (by have := HTL.out; omega) (HH5.out.below hb6) hH6
            rw [show decide (tokensS t = tokensS t) = true by simp] at S3
            have S3 := Lib.hid S3
            have HB6 := Lib.hid (HB5.out.trans (hb6.mono HB5.out.size))
            clear hH6 hb6 S1 S2 HH5
            go_wp2_with fail
            refine S3.out.mono ?_
            rintro e w7 ⟨rfl, hb7⟩
            have B7 := Lib.hid (HB6.out.trans (hb7.mono HB6.out.size))
            clear hb7
            go_wp2_with fail
            go_ret
            exact ⟨rfl, B7.out⟩
end Go.Proofs.YtflpihedhccdfaaGreatDoor
