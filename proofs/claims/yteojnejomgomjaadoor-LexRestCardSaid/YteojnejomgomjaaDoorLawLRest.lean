/-
  The law LexRest: true.
-/
import Derived.Test.YteojnejomgomjaaDoorProg
import Derived.Test.YteojnejomgomjaaDoorReg
import Derived.WalkKit
import Derived.WalkSpells
import Derived.WalkLawsBesides
import Derived.Lib.Hide
import Derived.Lib.MinMax
import Derived.Deep.QuietTactic
import Derived.BigQuiet
import Derived.OwnWalk
import Derived.Deep.AppendLies
import Derived.KernelRfl
import Derived.Test.YteojnejomgomjaaDoorLxLo
import Derived.Test.YteojnejomgomjaaDoorLxAp
set_option linter.unusedSimpArgs false
set_option linter.unusedVariables false
namespace Go.Proofs.YteojnejomgomjaaDoor
open Go.RowKit Go.Maps

set_option maxRecDepth 100000 in
set_option maxHeartbeats 8000000 in
theorem lexRest_any (s0 : ByteArray) (w : World) (hs : s0.size ≤ maxLen) (hT : Tabs w) :
    Calls Tryd.prog 5 #[.string s0] w fun e w' => e = .returned (.bool true) ∧ Below w.heap.size w w' := by
  have HS := Lib.hid (shown_any w hT)
  have HC := Lib.hid (fun u => cutC s0 u hs)
  have hcl := cut_len s0
  have HT := Lib.hid hT
  clear hs hT
  generalize cut300 s0 = s at *
  have HLn := Lib.hid (fun W h => LineC s W (by omega) h)
  have hll := dLine_len s
  by_cases hz : s.size = 0
  · obtain rfl : s = ByteArray.empty := ByteArray.size_eq_zero_iff.1 hz
    have hnil : dLine ByteArray.empty = [] := dLine_nil
    rw [hnil] at HLn
    have hem : (ByteArray.empty).toList.isEmpty = true := empty_is rfl
    clear hll hz hcl hnil
    go_enter Tryd.func5, Tryd.ntmps5
    go_wp2_with fail
    refine HS.out.mono ?_
    rintro e w1 ⟨rfl, hb1⟩
    have hT1 := HT.out.below hb1
    go_wp2_with fail
    refine (HC.out _).mono ?_
    rintro e w2 ⟨rfl, rfl⟩
    have HLw := Lib.hid (HLn.out _ hT1)
    go_wp2_with fail
    refine HLw.out.mono ?_
    rintro e w3 ⟨A3, c3, rfl, hH3, q3, hb3⟩
    have B3 := Lib.hid (hb1.trans (hb3.mono hb1.size))
    have HF := First_none w3
    unfold Tok.val noTok at HF
    have HF := Lib.hid HF
    clear HS HC HT HLn HLw hT1 hb1 hb3 hH3
    go_wp2_with fail
    refine HF.out.mono ?_
    rintro e w4 ⟨rfl, hb4⟩
    have B4 := Lib.hid (B3.out.trans (hb4.mono B3.out.size))
    clear HF hb4
    go_wp2_with fail
    go_ret
    exact ⟨rfl, B4.out.alloc B4.out.size _⟩
  · have h1 : 0 < s.size := by omega
    have hcons := dLine_cons h1
    obtain ⟨n, n1, n2, hn, _⟩ := first_begins h1
    have hfs : (dFirst s).text.size ≤ s.size := by rw [hn, ext_size]; omega
    have hrl := rest_less h1
    have hrt : restOf s = s.extract (dFirst s).text.size s.size := rfl
    have hlr := dLine_len (restOf s)
    have HFs := Lib.hid (fun W h => First_some s W h1 (by omega) h)
    unfold Tok.val at HFs
    have HLr := Lib.hid (fun W h => LineC (restOf s) W (by omega) h)
    rw [hrt] at HLr hlr hcons hrl
    have HCo := Lib.hid hcons
    clear hcons hn hrt
    generalize dFirst s = x at *
    generalize dLine (s.extract x.text.size s.size) = lr at *
    generalize dLine s = l at *
    have hlp : l.length = lr.length + 1 := by rw [HCo.out]; rfl
    have HLP := Lib.hid hlp
    have hlp1 : 1 ≤ l.length := by omega
    clear hlp
    go_enter Tryd.func5, Tryd.ntmps5
    go_wp2_with fail
    refine HS.out.mono ?_
    rintro e w1 ⟨rfl, hb1⟩
    have hT1 := HT.out.below hb1
    go_wp2_with fail
    refine (HC.out _).mono ?_
    rintro e w2 ⟨rfl, rfl⟩
    have HLw := Lib.hid (HLn.out _ hT1)
    go_wp2_with fail
    refine HLw.out.mono ?_
    rintro e w3 ⟨A3, c3, rfl, hH3, q3, hb3⟩
    have B3 := Lib.hid (hb1.trans (hb3.mono hb1.size))
    have hT3 := hT1.below hb3
    have HF := Lib.hid (HFs.out _ hT3)
    clear HS HC HLn HLw hT1 hb1 hb3
    go_wp2_with fail
    refine HF.out.mono ?_
    rintro e w4 ⟨rfl, hb4⟩
    have B4 := Lib.hid (B3.out.trans (hb4.mono B3.out.size))
    have hT4 := hT3.below hb4
    have hH4 := hH3.below hb4
    have hb5 := below_new w4 (.cells #[.int .i64 x.kind, .string x.text, .string x.glyph] tK)
    have B5 := Lib.hid (B4.out.trans (hb5.mono B4.out.size))
    have HL5 := Lib.hid (HLr.out _ (hT4.below hb5))
    have hH5 := hH4.below hb5
    have hX5 := heap_alloc_new w4 (.cells #[.int .i64 x.kind, .string x.text, .string x.glyph] tK)
    have HX5 := Lib.hid hX5
    have hz5 : (w4.alloc (.cells #[.int .i64 x.kind, .string x.text, .string x.glyph] tK)).heap.size = w4.heap.size + 1 := by simp
    have HZ5 := Lib.hid hz5
    have HH5 := Lib.hid hH5
    clear HF hb4 hb5 hH3 hH4 hT3 hT4 HLr HFs B3 B4 hX5 hz5 hH5
    go_wp2_with fail
    refine HL5.out.mono ?_
    rintro e w6 ⟨A6, c6, rfl, hH6, q6, hb6⟩
    have hsz5 : w4.heap.size + 1 ≤ w6.heap.size := by have := hb6.size; rw [HZ5.out] at this; exact this
    have hX6 := (hb6.block w4.heap.size (by rw [HZ5.out]; omega)).trans HX5.out
    have hL6 := HH5.out.below hb6
    have B6 := Lib.hid (B5.out.trans (hb6.mono B5.out.size))
    have hsw6 := B6.out.size
    obtain ⟨x0, x1, x2, _⟩ := tok_cells hX6
    have hbA := below_new w6 (.cells #[.int .i64 x.kind, .string x.text, .string x.glyph] tK)
    obtain ⟨A9, c9, w9, hrun, hN9, hgr9, hat9⟩ := push_tok (x := x) (g := w6.heap.size) (W := w6.alloc (.cells #[.int .i64 x.kind, .string x.text, .string x.glyph] tK)) (base := w.heap.size) (v := .slice none 0 0) (l := []) (heap_alloc_new w6 _) (World.ownsRow_nil _ _ _ _) (by simp) (by simp; omega)
    have hb9 : Below w6.heap.size w6 w9 := hbA.trans ((show Below (w6.alloc (.cells #[.int .i64 x.kind, .string x.text, .string x.glyph] tK)).heap.size _ w9 from ⟨hgr9.os, hgr9.tape, hgr9.output, hgr9.size, fun k hk => hgr9.block k hk (by simp [Value.ownBlock])⟩).mono (by simp))
    have hsw9 := hb9.size
    obtain ⟨i0, hi0, hy0, hy1, hy2⟩ := info_parts infoTok
    obtain ⟨v10, w10, hrun2, hN10, hgr10⟩ := run_append_toks w.heap.size w9 i0 _ hi0 hy0 hy1 hy2 rfl _ _ _ hN9 A6 c6 lr (hH6.below hb9) (by simp) (by omega) (by omega)
    have hcells : tokCells ([] ++ [x]) ++ tokCells lr = tokCells (x :: lr) := by rw [← tokCells_append]; rfl
    rw [hcells] at hN10
    obtain ⟨A10, c10, rfl, hn10, hH10, _⟩ := holdsT_of_own hN10
    have B10 := Lib.hid ((B6.out.trans (hb9.mono hsw6)).grown hgr10 (by omega) (fun k e => ownBlock_ge hN9 k e))
    have hk9 : ∀ k, (Value.slice A9 (([] : List Tok).length + 1) c9).ownBlock = some k → w6.heap.size ≤ k := by
      intro k hk
      have h1 := (hN9.lt k hk)
      rcases Nat.lt_or_ge k w6.heap.size with h | h
      · exfalso
        rcases hat9 with e | e
        · rw [e] at hk; simp [Value.ownBlock] at hk
        · rw [e] at hk; simp at hk; omega
      · exact h
    have hbx : Below w6.heap.size w9 w10 := (Below.refl _ w9).grown hgr10 hsw9 hk9
    have hL10 := hL6.below (hb9.trans hbx)
    have HSm := Same_any l (x :: lr) A3 A10 c3 c10 w10 (by omega) (by simp; omega) hL10 hH10
    rw [← HCo.out] at HSm
    have hd : decide (l = l) = true := by simp
    rw [hd] at HSm
    have HSm := Lib.hid HSm
    rw [← HCo.out] at hrun2
    have tok1 : True := trivial
    clear hbx hk9 hgr10 hN10 hH10 hcells hgr9 hN9 hat9 hb9 hbA hL6 hX6 hb6 hH6 hn10 hd hL10
    go_wp2_with (first | (at_builtin; have _t := tok1; go_must (refine wpList_append_run rfl _ _ 23 23 rfl rfl rfl hrun ?_); clear tok1) | (at_builtin; go_must (refine wpList_append_run rfl _ _ 23 23 rfl rfl rfl hrun2 ?_)))
    refine HSm.out.mono ?_
    rintro e w11 ⟨rfl, hb11⟩
    have B11 := Lib.hid (B10.out.trans (hb11.mono B10.out.size))
    go_wp2_with fail
    go_ret
    exact ⟨rfl, B11.out⟩
end Go.Proofs.YteojnejomgomjaaDoor
