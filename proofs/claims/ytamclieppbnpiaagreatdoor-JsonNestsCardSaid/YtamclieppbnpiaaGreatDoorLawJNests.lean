/-
  The law JsonNests: true.
-/
import Derived.Test.YtamclieppbnpiaaGreatDoorProg
import Derived.Test.YtamclieppbnpiaaGreatDoorReg
import Derived.WalkKit
import Derived.WalkSpells
import Derived.WalkLawsBesides
import Derived.Lib.Hide
import Derived.Lib.MinMax
import Derived.Deep.QuietTactic
import Derived.BigQuiet
import Derived.OwnWalk
import Derived.Deep.AppendLies
import Derived.KernelRfl
import Derived.Test.YtamclieppbnpiaaGreatDoorJtA
set_option linter.unusedSimpArgs false
set_option linter.unusedVariables false
namespace Go.Proofs.YtamclieppbnpiaaGreatDoor
open Go Go.RowKit Go.Maps

def nestJ : Nat → Js
  | 0 => .mk 4 false 0 ByteArray.empty [] []
  | k + 1 => .mk 4 false 0 ByteArray.empty [] [nestJ k]
def nestL : Nat → List UInt8
  | 0 => []
  | n + 1 => 91 :: (nestL n ++ [93])
theorem nest_len : ∀ n, (nestL n).length = 2 * n
  | 0 => rfl
  | n + 1 => by simp only [nestL, List.length_cons, List.length_append, nest_len n, List.length_nil]; omega
theorem nest_text : ∀ k, jtext (nestJ k) = nestL (k + 1)
  | 0 => by simp [nestJ, jtext, jtexts, sepL, nestL]
  | k + 1 => by
    have := nest_text k
    simp only [nestJ, jtext, jtexts, sepL]
    rw [this]
    simp [nestL]
theorem own_list (d : Nat) (l : List Js) : ownJ d (.mk 4 false 0 ByteArray.empty [] l) = decide (0 < d) := by
  rw [own_mk]
  simp
theorem nest_right : ∀ (d k : Nat), rightJ d (nestJ k) = decide (k < d)
  | 0, k => by
    have : rightJ 0 (nestJ k) = ownJ 0 (nestJ k) := by rw [rightJ]
    rw [this]
    cases k <;> (unfold nestJ; rw [own_list]; first | done | simp)
  | d + 1, 0 => by
    unfold nestJ
    rw [rightJ, own_list]
    simp [Js.l]
  | d + 1, k + 1 => by
    unfold nestJ
    rw [rightJ, own_list]
    simp only [Js.l, List.all_cons, List.all_nil, nest_right d k]
    simp
theorem nest_ok : ∀ k, okJ 100 (nestJ k)
  | 0 => okJ_iff.2 ⟨inI0, by decide, by decide, by decide, fun k hk => (by cases hk), fun x hx => (by cases hx)⟩
  | k + 1 => okJ_iff.2 ⟨inI0, Nat.zero_le _, Nat.zero_le _, by show 1 ≤ 100; omega, fun k hk => (by cases hk), fun x hx => by
      obtain rfl : x = nestJ k := by simpa [nestJ, Js.l] using hx
      exact nest_ok k⟩
theorem nest_parse {n : Nat} (h : n < 64) : parseL (nestL (n + 1)) = .ok (nestJ n) := by
  have hr : rightJ 64 (nestJ n) = true := by rw [nest_right]; simpa using h
  have := parse_text hr (okJ.fit _ (nest_ok n))
  rwa [nest_text] at this
theorem nest_deep : ∀ (d : Nat) (r : List UInt8), valueL d (List.replicate (d + 1) 91 ++ r) = .error 151
  | 0, r => by
    show valueL 0 (91 :: r) = _
    rw [valueL_list]
    rfl
  | d + 1, r => by
    have e : List.replicate (d + 1 + 1) (91 : UInt8) ++ r = 91 :: (List.replicate (d + 1) 91 ++ r) := by rw [List.replicate_succ]; rfl
    rw [e, valueL_list]
    show itemsL (valueL d) false (List.replicate (d + 1) 91 ++ r) = _
    have e2 : List.replicate (d + 1) (91 : UInt8) ++ r = 91 :: (List.replicate d 91 ++ r) := by rw [List.replicate_succ]; rfl
    have hd := nest_deep d r
    rw [e2] at hd ⊢
    have hs : skipL (91 :: (List.replicate d 91 ++ r)) = 91 :: (List.replicate d 91 ++ r) := skip_head (by decide)
    unfold itemsL
    rw [hs]
    have ht : takeP [endJ false] (91 :: (List.replicate d 91 ++ r)) = none := takeP_no (by decide)
    rw [ht]
    simp only
    rw [itemsGo_succ]
    have he : entJ false [] (91 :: (List.replicate d 91 ++ r)) = .ok ([], 91 :: (List.replicate d 91 ++ r)) := by
      unfold entJ
      rw [hs]
      rfl
    rw [he]
    simp only
    rw [hd]
theorem nest_split : ∀ n, nestL n = List.replicate n 91 ++ List.replicate n 93
  | 0 => rfl
  | n + 1 => by
    rw [nestL, nest_split n, List.append_assoc, List.replicate_succ, ← List.replicate_succ']
    rfl
theorem nest_error {n : Nat} (h : 64 < n) : parseL (nestL n) = .error 151 := by
  have e : nestL n = List.replicate 65 91 ++ (List.replicate (n - 65) 91 ++ List.replicate n 93) := by
    rw [nest_split, ← List.append_assoc, List.replicate_append_replicate]
    congr 2
    omega
  have hs : skipL (nestL n) = nestL n := by
    rw [e]
    exact skip_head (by decide)
  rw [parse_of, hs, e, nest_deep]
theorem cat_nest (n : Nat) : (⟨#[91]⟩ ++ bs (nestL n) ++ ⟨#[93]⟩ : ByteArray) = bs (nestL (n + 1)) := by
  show bs [91] ++ bs (nestL n) ++ bs [93] = _
  rw [bs_app, bs_app]
  rfl
theorem nest_ne {n : Nat} (h : 0 < n) : bs (nestL n) ≠ (⟨#[]⟩ : ByteArray) := by
  intro e
  have := congrArg ByteArray.size e
  rw [bs_size, nest_len] at this
  have e2 : (⟨#[]⟩ : ByteArray).size = 0 := rfl
  omega
/-- A list of one value, just made. -/
theorem one_JC {w : World} {x : Js} {cs : List Value} {g : Nat} (h : JC w x cs) (hg : w.heap[g]? = some (.cells cs.toArray tJ (0, 0))) : JC w (.mk 4 false 0 ByteArray.empty [] [x]) [.int .i64 4, .bool false, .int .i64 0, .string ByteArray.empty, .slice none 0 0, .slice (some ⟨g, 0, none⟩) 1 1] :=
  JC_iff.2 ⟨none, 0, some ⟨g, 0, none⟩, 1, rfl, Fz.HoldsS.nil _ _, Nat.le_refl _, Nat.le_refl _, fun i y hy => by
    have hi := (List.getElem?_eq_some_iff.1 hy).1
    have h0 : i = 0 := by simp [Js.l] at hi; omega
    subst h0
    obtain rfl : x = y := by simpa [Js.l] using hy
    refine ⟨g, 0, cs, rfl, fun j u hj => ?_, h⟩
    simp [World.cell?, hg, hj]⟩
set_option maxRecDepth 100000 in
set_option maxHeartbeats 8000000 in
theorem jsonNests_any (a : Addr) (n : Int) (w : World) (hn : (Lit.int .i64 n).wf = true) (hW : WJ a w) : Calls Tryz.prog 7 #[.int .i64 n] w fun e w' => e = .returned (.bool true) ∧ Below w.heap.size w w' := by
  have HS := Lib.hid (shown_any a w hW)
  have HW := Lib.hid hW
  clear hW hn
  by_cases h0 : n < 0
  · go_enter Tryz.func7, Tryz.ntmps7
    go_wp2_with fail
    refine HS.out.mono ?_
    rintro e w1 ⟨rfl, hb⟩
    go_wp2_with fail
    go_ret
    exact ⟨rfl, hb⟩
  by_cases h1 : 100 < n
  · go_enter Tryz.func7, Tryz.ntmps7
    go_wp2_with fail
    refine HS.out.mono ?_
    rintro e w1 ⟨rfl, hb⟩
    go_wp2_with fail
    go_ret
    exact ⟨rfl, hb⟩
  obtain ⟨m, rfl⟩ : ∃ m : Nat, n = (m : Int) := ⟨n.toNat, by omega⟩
  have hm : m ≤ 100 := by omega
  go_enter Tryz.func7, Tryz.ntmps7
  go_wp2_with fail
  refine HS.out.mono ?_
  rintro e w1 ⟨rfl, hb⟩
  have HB1 := Lib.hid hb
  have HW1 := Lib.hid (HW.out.keep hb)
  clear hb HS
  go_wp2_with fail
  go_loopw [4, 5] (fun s i wr => ∃ k : Nat, i = .int .i64 k ∧ s = .string (bs (nestL k)) ∧ k ≤ m ∧ wr = w1) (fun s i _ => m - (intOf i).toNat)
  case atStart => exact ⟨0, rfl, rfl, by omega, by first | trivial | rfl⟩
  case round =>
    obtain ⟨k, rfl, rfl, hk, rfl⟩ := hrel
    by_cases hkm : k < m
    · have i1 : (k : Int) < (m : Int) := by omega
      have z1 : ¬ 9223372036854775807 < 1 + (bs (nestL k)).size := by rw [bs_size, nest_len]; omega
      have z2 : ¬ 9223372036854775807 < 1 + (bs (nestL k)).size + 1 := by rw [bs_size, nest_len]; omega
      have hc := cat_nest k
      go_wp2_with fail
      go_roundw
      case rel => exact ⟨k + 1, by go_num, by first | rfl | rw [hc], by omega, by first | trivial | rfl⟩
      case measure => simp [intOf]; omega
    · obtain rfl : k = m := by omega
      clear hkm hk
      rcases (show k = 0 ∨ 64 < k ∨ k = 64 ∨ (0 < k ∧ k < 64) by omega) with rfl | h2 | rfl | ⟨h2, h3⟩
      · have HP := Lib.hid (fun W h => parse_any a (nestL 0) W _ (show parseL (nestL 0) = .error 150 by kernel_rfl) (by decide) h)
        go_wp2_with fail
        refine (HP.out _ HW1.out).mono ?_
        rintro e w3 ⟨hb, rfl⟩
        unfold zeroJ
        have hb5 := hb.trans ((below_new w3 (.cells #[.int .i64 0, .bool false, .int .i64 0, .string ⟨#[]⟩, .slice none 0 0, .slice none 0 0] tJ)).mono hb.size)
        have HB2 := Lib.hid (HB1.out.trans ((hb5).mono HB1.out.size))
        have HW2 := Lib.hid (HW1.out.keep hb5)
        clear hb hb5
        go_wp2_with fail
        go_ret
        exact ⟨rfl, HB2.out⟩
      · have HP := Lib.hid (fun W h => parse_any a (nestL k) W _ (nest_error h2) (by rw [nest_len]; omega) h)
        have j0 : ((k : Int) == 0) = false := by simp; omega
        have j1 : (64 : Int) < (k : Int) := by omega
        have HM := Lib.hid (fun W cs h => Same_any 100 (by omega) noJs noJs (okJ_iff.2 ⟨inI0, by decide, by decide, by decide, fun k hk => (by cases hk), fun x hx => (by cases hx)⟩) (okJ_iff.2 ⟨inI0, by decide, by decide, by decide, fun k hk => (by cases hk), fun x hx => (by cases hx)⟩) cs _ W h (noJs_JC W))
        rw [sameJ_iff.2 rfl] at HM
        clear h2
        go_wp2_with fail
        refine (HP.out _ HW1.out).mono ?_
        rintro e w3 ⟨hb, rfl⟩
        unfold zeroJ
        have hb5 := hb.trans ((below_new w3 (.cells #[.int .i64 0, .bool false, .int .i64 0, .string ⟨#[]⟩, .slice none 0 0, .slice none 0 0] tJ)).mono hb.size)
        have hv := heap_alloc_new w3 (.cells #[.int .i64 0, .bool false, .int .i64 0, .string ⟨#[]⟩, .slice none 0 0, .slice none 0 0] tJ)
        have HM3 := Lib.hid (HM.out (w3.alloc (.cells #[.int .i64 0, .bool false, .int .i64 0, .string ⟨#[]⟩, .slice none 0 0, .slice none 0 0] tJ)) _ (noJs_JC _))
        have HB2 := Lib.hid (HB1.out.trans ((hb5).mono HB1.out.size))
        have HW2 := Lib.hid (HW1.out.keep hb5)
        obtain ⟨y0, y1, y2, y3, y4, y5⟩ := six_at hv
        clear hb hb5 hv
        go_wp2_with fail
        refine (HM3.out).mono ?_
        rintro e w4 ⟨rfl, hb⟩
        have HB3 := Lib.hid (HB2.out.trans ((hb).mono HB2.out.size))
        have HW3 := Lib.hid (HW2.out.keep hb)
        clear hb
        go_wp2_with fail
        go_ret
        exact ⟨rfl, HB3.out⟩
      · have HP := Lib.hid (fun W h => parse_any a (nestL (63 + 1)) W _ (nest_parse (n := 63) (by omega)) (by rw [nest_len]; omega) h)
        have HPr := Lib.hid (fun W cs h1 h2 => Print_any a 100 (by omega) (nestJ 63) (nest_ok _) (fun _ => by rw [nest_text, nest_len]; omega) cs W h1 h2)
        have HPw := Lib.hid (fun W cs h1 h2 => Print_any a 100 (by omega) (.mk 4 false 0 ByteArray.empty [] [nestJ 63]) (nest_ok (63 + 1)) (fun _ => by show (jtext (nestJ (63 + 1))).length ≤ _; rw [nest_text, nest_len]; omega) cs W h1 h2)
        rw [nest_right, nest_text, decide_eq_true (by omega)] at HPr
        simp only [if_true] at HPr
        rw [show rightJ 64 (.mk 4 false 0 ByteArray.empty [] [nestJ 63]) = decide (63 + 1 < 64) from nest_right 64 (63 + 1), show jtext (.mk 4 false 0 ByteArray.empty [] [nestJ 63]) = nestL (63 + 1 + 1) from nest_text (63 + 1)] at HPw
        rw [decide_eq_false (by omega)] at HPw
        simp only [Bool.false_eq_true, if_false] at HPw
        rw [show bs [] = (⟨#[]⟩ : ByteArray) from rfl] at HPw
        rw [show nestL (63 + 1) = nestL 64 from rfl] at HPr HP
        have z0 := (bs (nestL 64)).size
        generalize bs (nestL 64) = S at *
        generalize hF : nestJ 63 = f at *
        clear hF
        go_wp2_with fail
        refine (HP.out _ HW1.out).mono ?_
        rintro e w3 ⟨hb, cs, rfl, hJ⟩
        obtain ⟨A1, c1, B1, d1, rfl⟩ := hJ.six
        have hv := VarAt.new hJ
        have hbV := below_new w3 (.cells #[.int .i64 f.kind, .bool f.yes, .int .i64 f.n, .string f.s, .slice A1 f.keys.length c1, .slice B1 f.l.length d1] tJ)
        have hb2 := hb.trans (hbV.mono hb.size)
        have HB2 := Lib.hid (HB1.out.trans ((hb2).mono HB1.out.size))
        have HW2 := Lib.hid (HW1.out.keep hb2)
        have v_2 := Lib.hid hv
        clear hJ hb hb2 hbV hv
        obtain ⟨v2c0, v2c1, v2c2, v2c3, v2c4, v2c5⟩ := six_at v_2.out.row
        go_wp2_with fail
        generalize w3.alloc (.cells #[.int .i64 f.kind, .bool f.yes, .int .i64 f.n, .string f.s, .slice A1 f.keys.length c1, .slice B1 f.l.length d1] tJ) = w3v at *
        refine (HPr.out _ _ v_2.out.jc HW2.out).mono ?_
        rintro e w4 ⟨rfl, hb⟩
        have HB3 := Lib.hid (HB2.out.trans ((hb).mono HB2.out.size))
        have HW3 := Lib.hid (HW2.out.keep hb)
        have v_3 := Lib.hid (v_2.out.keep hb)
        clear hb
        obtain ⟨v3c0, v3c1, v3c2, v3c3, v3c4, v3c5⟩ := six_at v_3.out.row
        go_wp2_with fail
        have hbG := below_new w4 (.cells #[.int .i64 f.kind, .bool f.yes, .int .i64 f.n, .string f.s, .slice A1 f.keys.length c1, .slice B1 f.l.length d1] tJ)
        have hJw := one_JC (v_3.out.jc.keep hbG) (heap_alloc_new w4 (.cells #[.int .i64 f.kind, .bool f.yes, .int .i64 f.n, .string f.s, .slice A1 f.keys.length c1, .slice B1 f.l.length d1] tJ))
        have HB4 := Lib.hid (HB3.out.trans (hbG.mono HB3.out.size))
        have HPx := Lib.hid (HPw.out _ _ hJw (HW3.out.keep hbG))
        clear hbG hJw
        refine HPx.out.mono ?_
        rintro e w5 ⟨rfl, hb⟩
        have HB5 := Lib.hid (HB4.out.trans (hb.mono HB4.out.size))
        clear hb
        go_wp2_with fail
        go_ret
        exact ⟨rfl, HB5.out⟩
      · obtain ⟨j, rfl⟩ : ∃ j, k = j + 1 := ⟨k - 1, by omega⟩
        have HP := Lib.hid (fun W h => parse_any a (nestL (j + 1)) W _ (nest_parse (n := j) (by omega)) (by rw [nest_len]; omega) h)
        have HPr := Lib.hid (fun W cs h1 h2 => Print_any a 100 (by omega) (nestJ j) (nest_ok _) (fun _ => by rw [nest_text, nest_len]; omega) cs W h1 h2)
        have HPw := Lib.hid (fun W cs h1 h2 => Print_any a 100 (by omega) (.mk 4 false 0 ByteArray.empty [] [nestJ j]) (nest_ok (j + 1)) (fun _ => by show (jtext (nestJ (j + 1))).length ≤ _; rw [nest_text, nest_len]; omega) cs W h1 h2)
        rw [nest_right, nest_text, decide_eq_true (by omega)] at HPr
        simp only [if_true] at HPr
        rw [show rightJ 64 (.mk 4 false 0 ByteArray.empty [] [nestJ j]) = decide (j + 1 < 64) from nest_right 64 (j + 1), show jtext (.mk 4 false 0 ByteArray.empty [] [nestJ j]) = nestL (j + 1 + 1) from nest_text (j + 1)] at HPw
        rw [decide_eq_true (by omega)] at HPw
        simp only [if_true] at HPw
        rw [← cat_nest] at HPw
        have z1 : ¬ 9223372036854775807 < 1 + (bs (nestL (j + 1))).size := by rw [bs_size, nest_len]; omega
        have z2 : ¬ 9223372036854775807 < 1 + (bs (nestL (j + 1))).size + 1 := by rw [bs_size, nest_len]; omega
        have j0 : ((j : Int) + 1 == 0) = false := by simp; omega
        have j1 : ¬ (64 : Int) < (j : Int) + 1 := by omega
        have j2 : ((j : Int) + 1 == 64) = false := by simp; omega
        have j3 : (j : Int) + 1 < 64 := by omega
        generalize bs (nestL (j + 1)) = S at *
        generalize hF : nestJ j = f at *
        clear hF
        go_wp2_with fail
        refine (HP.out _ HW1.out).mono ?_
        rintro e w3 ⟨hb, cs, rfl, hJ⟩
        obtain ⟨A1, c1, B1, d1, rfl⟩ := hJ.six
        have hv := VarAt.new hJ
        have hbV := below_new w3 (.cells #[.int .i64 f.kind, .bool f.yes, .int .i64 f.n, .string f.s, .slice A1 f.keys.length c1, .slice B1 f.l.length d1] tJ)
        have hb2 := hb.trans (hbV.mono hb.size)
        have HB2 := Lib.hid (HB1.out.trans ((hb2).mono HB1.out.size))
        have HW2 := Lib.hid (HW1.out.keep hb2)
        have v_2 := Lib.hid hv
        clear hJ hb hb2 hbV hv
        obtain ⟨v2c0, v2c1, v2c2, v2c3, v2c4, v2c5⟩ := six_at v_2.out.row
        go_wp2_with fail
        generalize w3.alloc (.cells #[.int .i64 f.kind, .bool f.yes, .int .i64 f.n, .string f.s, .slice A1 f.keys.length c1, .slice B1 f.l.length d1] tJ) = w3v at *
        refine (HPr.out _ _ v_2.out.jc HW2.out).mono ?_
        rintro e w4 ⟨rfl, hb⟩
        have HB3 := Lib.hid (HB2.out.trans ((hb).mono HB2.out.size))
        have HW3 := Lib.hid (HW2.out.keep hb)
        have v_3 := Lib.hid (v_2.out.keep hb)
        clear hb
        obtain ⟨v3c0, v3c1, v3c2, v3c3, v3c4, v3c5⟩ := six_at v_3.out.row
        go_wp2_with fail
        have hbG := below_new w4 (.cells #[.int .i64 f.kind, .bool f.yes, .int .i64 f.n, .string f.s, .slice A1 f.keys.length c1, .slice B1 f.l.length d1] tJ)
        have hJw := one_JC (v_3.out.jc.keep hbG) (heap_alloc_new w4 (.cells #[.int .i64 f.kind, .bool f.yes, .int .i64 f.n, .string f.s, .slice A1 f.keys.length c1, .slice B1 f.l.length d1] tJ))
        have HB4 := Lib.hid (HB3.out.trans (hbG.mono HB3.out.size))
        have HPx := Lib.hid (HPw.out _ _ hJw (HW3.out.keep hbG))
        clear hbG hJw
        refine HPx.out.mono ?_
        rintro e w5 ⟨rfl, hb⟩
        have HB5 := Lib.hid (HB4.out.trans (hb.mono HB4.out.size))
        clear hb
        go_wp2_with fail
        go_ret
        exact ⟨rfl, HB5.out⟩
end Go.Proofs.YtamclieppbnpiaaGreatDoor
