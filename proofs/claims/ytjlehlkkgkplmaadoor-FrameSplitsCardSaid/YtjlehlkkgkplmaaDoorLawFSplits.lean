/-
  The law FrameSplits: true.
-/
import Derived.Test.YtjlehlkkgkplmaaDoorProg
import Derived.Test.YtjlehlkkgkplmaaDoorReg
import Derived.WalkKit
import Derived.WalkSpells
import Derived.WalkLawsBesides
import Derived.Lib.Hide
import Derived.Lib.MinMax
import Derived.Deep.QuietTactic
import Derived.BigQuiet
import Derived.OwnWalk
import Derived.Deep.AppendLies
import Derived.KernelRfl
import Derived.Test.YtjlehlkkgkplmaaDoorFrSh
set_option linter.unusedSimpArgs false
set_option linter.unusedVariables false
namespace Go.Proofs.YtjlehlkkgkplmaaDoor
open Go Go.RowKit

set_option maxRecDepth 100000 in
set_option maxHeartbeats 8000000 in
theorem frameSplits_any (s t : ByteArray) (a : Addr) (w : World) (hs : s.size ≤ maxLen) (ht : t.size ≤ maxLen) (hL : LaidF a w) :
    Calls Tryd.prog 3 #[.string s, .string t] w fun e w' => e = .returned (.bool true) ∧ Below w.heap.size w w' := by
  have HS := Lib.hid (shown_any a w hL)
  have HC := Lib.hid (fun u => Cut_any s u hs)
  have HC2 := Lib.hid (fun u => Cut_any t u ht)
  have hz := cut9010_size s
  have hz2 := cut9010_size t
  generalize cut9010 s = b at *
  generalize cut9010 t = c at *
  have HP := Lib.hid (fun W (hb : Below w.heap.size w W) => Put_any b a W (by omega) (hL.below hb))
  have HQ := Lib.hid (fun W => RPut_any b W (by omega))
  have HU := Lib.hid (fun W (hb : Below w.heap.size w W) => Split_any c a W (by omega) (hL.below hb))
  have HV := Lib.hid (fun W => RSplit_any c W (by omega))
  have hlen := splitB_len c
  generalize splitB c = P at *
  obtain ⟨bs, rest, bad⟩ := P
  simp only at hlen HU HV
  generalize (putB b).2 = pe at *
  generalize (putB b).1 = pb at *
  clear hL hs ht
  go_enter Tryd.func3, Tryd.ntmps3
  go_wp2_with fail
  refine HS.out.mono ?_
  rintro e w1 ⟨rfl, hb1⟩
  have B1 := Lib.hid hb1
  clear hb1 HS
  go_wp2_with fail
  refine (HC.out _).mono ?_
  rintro e w2 ⟨rfl, rfl⟩
  have HPw := Lib.hid (HP.out _ B1.out)
  clear HP
  go_wp2_with fail
  refine HPw.out.mono ?_
  rintro e w3 ⟨rfl, hb3⟩
  have B3 := Lib.hid (B1.out.trans (hb3.mono B1.out.size))
  clear hb3 HPw
  go_wp2_with fail
  refine (HC.out _).mono ?_
  rintro e w4 ⟨rfl, rfl⟩
  clear HC
  go_wp2_with fail
  refine (HQ.out _).mono ?_
  rintro e w5 ⟨rfl, hb5⟩
  have B5 := Lib.hid (B3.out.trans (hb5.mono B3.out.size))
  clear hb5 HQ
  go_wp2_with fail
  refine (HC2.out _).mono ?_
  rintro e w6 ⟨rfl, rfl⟩
  have HUw := Lib.hid (HU.out _ B5.out)
  clear HU
  go_wp2_with fail
  refine HUw.out.mono ?_
  rintro e w7 ⟨v7, rfl, ho7, hb7⟩
  have B7 := Lib.hid (B5.out.trans (hb7.mono B5.out.size))
  have HO7 := Lib.hid ho7
  obtain ⟨A7, c7, rfl⟩ := owns_slice ho7
  clear hb7 ho7 HUw
  go_wp2_with fail
  refine (HC2.out _).mono ?_
  rintro e w8 ⟨rfl, rfl⟩
  clear HC2
  have HVw := Lib.hid (HV.out w8)
  clear HV
  go_wp2_with fail
  refine HVw.out.mono ?_
  rintro e w9 ⟨v9, rfl, ho9, hb9⟩
  have B9 := Lib.hid (B7.out.trans (hb9.mono B7.out.size))
  have ho7 := own_below HO7.out hb9
  obtain ⟨A, ca, e1, -, hH1, -⟩ := holdsS_of_own ho7
  obtain ⟨C, cc, e2, -, hH2, -⟩ := holdsS_of_own ho9
  cases e1
  subst e2
  have HT := Lib.hid (Texts_any bs bs A7 C c7 cc w9 (by omega) (by omega) hH1 hH2)
  have hdec : decide (bs = bs) = true := by simp
  rw [hdec] at HT
  clear hH1 hH2 ho7 ho9 hb9 HVw hdec hlen
  go_wp2_with fail
  refine HT.out.mono ?_
  rintro e w10 ⟨rfl, hb10⟩
  have B10 := Lib.hid (B9.out.trans (hb10.mono B9.out.size))
  clear hb10
  go_wp2_with fail
  go_ret
  exact ⟨rfl, B10.out⟩
end Go.Proofs.YtjlehlkkgkplmaaDoor
