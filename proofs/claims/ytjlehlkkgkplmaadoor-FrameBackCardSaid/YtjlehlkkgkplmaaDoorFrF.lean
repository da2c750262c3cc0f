/-
  How many bytes a head's body has: by the program.
-/
import Derived.Test.YtjlehlkkgkplmaaDoorProg
import Derived.Test.YtjlehlkkgkplmaaDoorReg
import Derived.WalkKit
import Derived.WalkSpells
import Derived.WalkLawsBesides
import Derived.Lib.Hide
import Derived.Lib.MinMax
import Derived.Deep.QuietTactic
import Derived.BigQuiet
import Derived.OwnWalk
import Derived.Deep.AppendLies
import Derived.KernelRfl
import Derived.Test.YtjlehlkkgkplmaaDoorMap
import Derived.Test.YtjlehlkkgkplmaaDoorRegG
import Derived.Test.YtjlehlkkgkplmaaDoorFrD
import Derived.Test.YtjlehlkkgkplmaaDoorFrE
import Derived.Test.YtjlehlkkgkplmaaDoorFrX
set_option linter.unusedSimpArgs false
set_option linter.unusedVariables false
namespace Go.Proofs.YtjlehlkkgkplmaaDoor
open Go Go.RowKit Go.Maps

def lenB : ByteArray := ⟨#[67, 111, 110, 116, 101, 110, 116, 45, 76, 101, 110, 103, 116, 104]⟩
theorem strKey : Tryd.prog.underlying 9 = some .string := Tryd.underlying9
theorem strMap : Tryd.prog.underlying 99 = some (.map 9 9) := Tryd.underlying99
theorem strZero (w : World) : (zeroValue 9).run Tryd.prog w = .ok (.string ⟨#[]⟩) w := by kernel_rfl
def dataL (ls : List ByteArray) : List (List UInt8) := ls.map (fun l => l.data.toList)
/-- What 'size' returns. -/
def sizeVal (a : Addr) : Option Nat → Value
  | some n => .tuple #[.int .i64 (n : Int), .nilIface]
  | none => .tuple #[.int .i64 0, errVal a true]
def dataO (o : Option ByteArray) : Option (List UInt8) := o.map (fun v => v.data.toList)
theorem grown_below {B b : Nat} {w w1 w2 : World} (hb : Below B w w1) (hg : w1.grownBy w2 (some b)) (hB : B ≤ w1.heap.size) (h : B ≤ b) : Below B w w2 :=
  hb.trans ⟨hg.os, hg.tape, hg.output, hg.size, fun j hj => hg.block j (Nat.lt_of_lt_of_le hj hB) (fun e => by cases e; omega)⟩
theorem cut_len (l s : List UInt8) : (Lib.cut l s).1.length ≤ l.length ∧ (Lib.cut l s).2.1.length ≤ l.length := by
  unfold Lib.cut
  split
  · simp; omega
  · simp
theorem lenB_iff (n : ByteArray) : n.data.toList = lengthName ↔ n = lenB :=
  ⟨fun h => text_inj h, fun h => by rw [h]; rfl⟩
theorem Cut_at (s sep N V : ByteArray) (cb : Bool) (a : Addr) (w : World) (hs : s.size ≤ 1000000) (h : LaidF a w) (hc : Lib.cut s.data.toList sep.data.toList = (N.data.toList, V.data.toList, cb)) :
    Calls Tryd.prog 42 #[.string s, .string sep] w fun e w' => e = .returned (.tuple #[.string N, .string V, .bool cb]) ∧ Below w.heap.size w w' := by
  have := Cut_lib s sep a w hs h
  rw [hc] at this
  exact this

set_option maxRecDepth 100000 in
set_option maxHeartbeats 8000000 in
theorem size_any (a : Addr) (A : Option Addr) (c : Nat) (ls : List ByteArray) (w : World) (hl : ls.length ≤ 200) (hs : ∀ x ∈ ls, x.size ≤ 1000) (hH : HoldsS w A ls) (hL : LaidF a w) :
    Calls Tryd.prog 44 #[.slice A ls.length c] w fun e w' => Below w.heap.size w w' ∧
      e = .returned (sizeVal a (sizeGo none (dataL ls))) := by
  have hb0 := below_new w (.map #[] 0)
  have hm0 := MapIs.made w Tryd.prog 9
  have HB0 := Lib.hid hb0
  have HM0 := Lib.hid hm0
  clear hb0 hm0
  have hmm := @run_makeMap Tryd.prog
  go_enter Tryd.func44, Tryd.ntmps44
  go_wp2_with fail
  go_loopw [17] (fun i wr => ∃ (k n : Nat) (out : Option ByteArray) (look : ByteArray → Option Value), k ≤ ls.length ∧ n ≤ k ∧ i = .int .i64 (k : Int) ∧ Hid (MapIs wr Tryd.prog 9 w.heap.size n look) ∧
    Hid (look lenB = out.map Value.string ∧ ∀ v, out = some v → v.size ≤ 1000) ∧ Hid (pGo none (dataL ls) = pGo (dataO out) ((dataL ls).drop k)) ∧ Hid (Below w.heap.size w wr)) (fun i _ => ls.length - (intOf i).toNat)
  case atStart => exact ⟨0, 0, none, _, Nat.zero_le _, Nat.le_refl _, rfl, HM0, Lib.hid ⟨rfl, fun _ e => by cases e⟩, Lib.hid rfl, HB0⟩
  case round =>
    obtain ⟨k, n, out, look, hk, hn, rfl, HM, HK, HP, HB⟩ := hrel
    by_cases hlt : k < ls.length
    · have hx := List.getElem?_eq_getElem hlt
      have hxs := hs _ (List.getElem_mem hlt)
      obtain ⟨b, off, rfl, c1⟩ := (hH.below HB.out) k ls[k] hx
      generalize ls[k] = x at *
      obtain ⟨N, V, cb, hct⟩ : ∃ (N V : ByteArray) (cb : Bool), Lib.cut x.data.toList [58, 32] = (N.data.toList, V.data.toList, cb) := ⟨⟨(Lib.cut x.data.toList [58, 32]).1.toArray⟩, ⟨(Lib.cut x.data.toList [58, 32]).2.1.toArray⟩, _, rfl⟩
      have HC := Lib.hid (Cut_at x ⟨#[58, 32]⟩ N V cb a wr (by omega) (hL.below HB.out) hct)
      have HX := Lib.hid hx
      clear hx
      go_wp2_with fail
      refine HC.out.mono ?_
      rintro e w1 ⟨rfl, hb1⟩
      have HM1 := HM.out.below hb1
      have hlk := MapIs.get true HM1 strKey strMap (strZero w1) lenB (by decide)
      have HB1 := Lib.hid (HB.out.trans (hb1.mono HB.out.size))
      have HK0 := Lib.hid hlk
      unfold lenB at hlk
      have hdrop : (dataL ls).drop k = x.data.toList :: (dataL ls).drop (k + 1) := by
        have hd : (dataL ls)[k]? = some x.data.toList := by unfold dataL; rw [List.getElem?_map, HX.out]; rfl
        obtain ⟨h1, h2⟩ := List.getElem?_eq_some_iff.1 hd
        rw [← h2]
        exact List.drop_eq_getElem_cons h1
      have hline := pLine_tests x
      have hp := HP.out
      rw [hdrop, pGo] at hp
      have hbad : lineOf x.data.toList = none → Hid (sizeGo none (dataL ls) = none) := fun h => Lib.hid (by
        rw [h] at hp
        rw [← pSize_is]
        unfold pSize
        rw [hp]
        rfl)
      have herr := (hL.below HB1.out).err
      unfold ErrF at herr
      have hlen := cut_len x.data.toList [58, 32]
      rw [hct] at hlen
      simp only at hlen
      rw [hct] at hline
      by_cases hok : cb = true
      · subst hok
        have hlx : x.data.toList.length = x.size := rfl
        have z1 : N.size ≤ 1000000 := by show N.data.toList.length ≤ _; omega
        have z2 : V.size ≤ 1000000 := by show V.data.toList.length ≤ _; omega
        have z3 : N.size ≤ maxLen := by show N.data.toList.length ≤ _; unfold maxLen; omega
        have HNm := Lib.hid (fun wa => isName_any N wa z1)
        have HVl := Lib.hid (fun wa => isValue_any V wa z2)
        simp only [true_and] at hline
        by_cases hn : isNameS N = true
        · by_cases hv : isValS V = true
          · rw [if_pos ⟨hn, hv⟩] at hline
            rw [hline] at hp
            simp only at hp
            have HQ : Hid (isNameS N = true) := Lib.hid hn
            have call : True := trivial
            cases out with
            | none =>
              have hlk2 := HK0.out
              rw [HK.out.1] at hlk2
              unfold lenB at hlk2
              have HP2 : Hid (pGo none (dataL ls) = pGo (dataO (if N = lenB then some V else none)) ((dataL ls).drop (k + 1))) := Lib.hid (by
                rw [hp]
                by_cases h : N.data.toList = lengthName
                · rw [if_pos h, if_pos ((lenB_iff N).1 h)]; rfl
                · rw [if_neg h, if_neg (fun e => h ((lenB_iff N).2 e))])
              have HK2 : Hid ((if lenB = N then some (Value.string V) else look lenB) = (if N = lenB then some V else none).map Value.string ∧ ∀ v, (if N = lenB then some V else none) = some v → v.size ≤ 1000) := Lib.hid (by
                refine ⟨?_, fun v e => by split at e <;> cases e; show V.data.toList.length ≤ _; omega⟩
                by_cases h : N = lenB
                · rw [if_pos h, if_pos h.symm]; rfl
                · rw [if_neg h, if_neg (fun e => h e.symm), HK.out.1])
              simp only [Option.map_none, Option.getD_none, Option.isSome_none, if_true] at hlk2
              clear hbad hline hp hdrop hct hlen hn hlk
              go_wp2_with fail
              refine (HNm.out _).mono ?_
              rintro e w2 ⟨rfl, hb2⟩
              have HM3 := HM1.below hb2
              have HB3 := Lib.hid (HB1.out.trans (hb2.mono HB1.out.size))
              rw [HQ.out]
              go_wp2_with fail
              refine (HVl.out _).mono ?_
              rintro e w3 ⟨rfl, rfl⟩
              rw [hv]
              obtain ⟨w4, hrun, HM4, hgr⟩ := HM3.put strKey strMap (by unfold maxLen; omega) N z3 (.string V)
              have HB4 := Lib.hid (grown_below HB3.out hgr HB3.out.size (Nat.le_refl _))
              have HM5 := Lib.hid HM4
              clear HM4 hgr
              go_wp2_with fail
              go_roundw
              case rel => exact ⟨k + 1, n + 1, _, _, by omega, by omega, by go_num, HM5, HK2, HP2, HB4⟩
              case measure => simp [intOf]; omega
            | some v0 =>
              have hlk2 := HK0.out
              rw [HK.out.1] at hlk2
              unfold lenB at hlk2
              simp only [Option.map_some, Option.getD_some, Option.isSome_some, if_true] at hlk2
              have hds : (dataO (some v0)).isSome = true := rfl
              simp only [hds, if_true] at hp
              clear hds
              by_cases hN : N.data.toList = lengthName
              · rw [if_pos hN] at hp
                have HN : Hid (sizeGo none (dataL ls) = none) := Lib.hid (by
                  rw [← pSize_is]
                  unfold pSize
                  rw [hp]
                  rfl)
                obtain rfl := (lenB_iff N).1 hN
                clear hbad hline hp hdrop hct hlen hn hlk
                go_wp2_with fail
                refine (HNm.out _).mono ?_
                rintro e w2 ⟨rfl, hb2⟩
                have HB3 := Lib.hid (HB1.out.trans (hb2.mono HB1.out.size))
                rw [HQ.out]
                go_wp2_with fail
                refine (HVl.out _).mono ?_
                rintro e w3 ⟨rfl, rfl⟩
                rw [hv]
                have herr := (hL.below HB3.out).err
                unfold ErrF at herr
                unfold lenB
                go_wp2_with fail
                go_region
                go_wp2_with fail
                go_ret2
                exact ⟨HB3.out.drew, by rw [HN.out]; rfl⟩
              · have hne : N ≠ lenB := fun e => hN ((lenB_iff N).2 e)
                have hbe : (N.toList == [67, 111, 110, 116, 101, 110, 116, 45, 76, 101, 110, 103, 116, 104]) = false := by
                  have h := bytes_beq_no hne
                  rw [ByteArray.toList_eq lenB] at h
                  exact h
                rw [if_neg hN] at hp
                have HP2 : Hid (pGo none (dataL ls) = pGo (dataO (some v0)) ((dataL ls).drop (k + 1))) := Lib.hid hp
                have HK2 : Hid ((if lenB = N then some (Value.string V) else look lenB) = (some v0).map Value.string ∧ ∀ v, (some v0) = some v → v.size ≤ 1000) := Lib.hid (by
                  refine ⟨?_, HK.out.2⟩
                  rw [if_neg (fun e => hne e.symm), HK.out.1])
                clear hbad hline hp hdrop hct hlen hn hlk hne
                go_wp2_with fail
                refine (HNm.out _).mono ?_
                rintro e w2 ⟨rfl, hb2⟩
                have HM3 := HM1.below hb2
                have HB3 := Lib.hid (HB1.out.trans (hb2.mono HB1.out.size))
                rw [HQ.out]
                go_wp2_with fail
                refine (HVl.out _).mono ?_
                rintro e w3 ⟨rfl, rfl⟩
                rw [hv]
                obtain ⟨w4, hrun, HM4, hgr⟩ := HM3.put strKey strMap (by unfold maxLen; omega) N z3 (.string V)
                have HB4 := Lib.hid (grown_below HB3.out hgr HB3.out.size (Nat.le_refl _))
                have HM5 := Lib.hid HM4
                clear HM4 hgr
                go_wp2_with fail
                go_roundw
                case rel => exact ⟨k + 1, n + 1, _, _, by omega, by omega, by go_num, HM5, HK2, HP2, HB4⟩
                case measure => simp [intOf]; omega
          · have hv2 : isValS V = false := by simpa using hv
            have HN := hbad (by rw [hline, if_neg (fun h => hv h.2)])
            have HQ : Hid (isNameS N = true) := Lib.hid hn
            clear hbad hline hp hdrop hct hlen hn hv
            go_wp2_with fail
            refine (HNm.out _).mono ?_
            rintro e w2 ⟨rfl, hb2⟩
            have HB2 := Lib.hid (HB1.out.trans (hb2.mono HB1.out.size))
            have herr := (hL.below HB2.out).err
            unfold ErrF at herr
            rw [HQ.out]
            go_wp2_with fail
            refine (HVl.out _).mono ?_
            rintro e w3 ⟨rfl, rfl⟩
            rw [hv2]
            go_wp2_with fail
            go_region
            go_wp2_with fail
            go_ret2
            exact ⟨HB2.out.drew, by rw [HN.out]; rfl⟩
        · have hn2 : isNameS N = false := by simpa using hn
          have HN := hbad (by rw [hline, if_neg (fun h => hn h.1)])
          clear hbad hline hp hdrop hct hlen hn HVl
          go_wp2_with fail
          refine (HNm.out _).mono ?_
          rintro e w2 ⟨rfl, hb2⟩
          have HB2 := Lib.hid (HB1.out.trans (hb2.mono HB1.out.size))
          have herr := (hL.below HB2.out).err
          unfold ErrF at herr
          rw [hn2]
          go_wp2_with fail
          go_region
          go_wp2_with fail
          go_ret2
          exact ⟨HB2.out.drew, by rw [HN.out]; rfl⟩
      · have hok2 : cb = false := by simpa using hok
        have HN := hbad (by rw [hline, if_neg (fun h => hok h.1)])
        clear hbad hline hp hdrop hok hct
        go_wp2_with fail
        go_region
        go_wp2_with fail
        go_ret2
        exact ⟨HB1.out.drew, by rw [HN.out]; rfl⟩
    · obtain rfl : k = ls.length := by omega
      obtain ⟨V, hV, hVz, hVg⟩ : ∃ V : ByteArray, V.data.toList = (dataO out).getD [] ∧ V.size ≤ 1000 ∧ (look lenB).getD (.string ⟨#[]⟩) = .string V := by
        rw [HK.out.1]
        cases hO : out with
        | none => exact ⟨⟨#[]⟩, rfl, Nat.zero_le _, rfl⟩
        | some v => exact ⟨v, rfl, HK.out.2 v hO, rfl⟩
      have hS : sizeGo none (dataL ls) = numOf V.data.toList := by
        rw [← pSize_is]
        unfold pSize
        rw [HP.out, List.drop_eq_nil_of_le (by unfold dataL; simp), pGo, hV]
        rfl
      have HS := Lib.hid hS
      have hlk := MapIs.get false HM.out strKey strMap (strZero wr) lenB (by decide)
      rw [hVg] at hlk
      unfold lenB at hlk
      simp only [Bool.false_eq_true, if_false] at hlk
      have HA := Lib.hid (Atoi_any V a wr (by omega) (hL.below HB.out))
      have HVg := Lib.hid hVg
      clear hS hV hVg hVz HK HP
      go_wp2_with fail
      refine HA.out.mono ?_
      rintro e w1 ⟨hb1, h⟩
      have HM1 := HM.out.below hb1
      have HB1 := Lib.hid (HB.out.trans (hb1.mono HB.out.size))
      rcases h with ⟨m, hm, rfl, m0, m1⟩ | ⟨hm, m, t, p, rfl⟩
      · by_cases c1 : m < 0
        · have HN : Hid (sizeGo none (dataL ls) = none) := Lib.hid (by
            rw [HS.out]
            rcases num_reads hm with ⟨n, h1, rfl⟩ | ⟨h1, _⟩
            · omega
            · exact h1)
          have herr := (hL.below HB1.out).err
          unfold ErrF at herr
          clear HA HM HM1
          go_wp2_with fail
          go_quiet (fail)
          go_wp2_with fail
          go_region
          go_wp2_with fail
          go_ret2
          exact ⟨HB1.out.trans ⟨rfl, rfl, rfl, Nat.le_refl _, fun _ _ => rfl⟩, by rw [HN.out]; rfl⟩
        · by_cases c2 : 9000 < m
          · have HN : Hid (sizeGo none (dataL ls) = none) := Lib.hid (by
              rw [HS.out]
              rcases num_reads hm with ⟨n, h1, rfl⟩ | ⟨h1, _⟩
              · have := (numOf_iff.1 h1).1
                omega
              · exact h1)
            have herr := (hL.below HB1.out).err
            unfold ErrF at herr
            clear HA HM HM1
            go_wp2_with fail
            go_quiet (fail)
            go_wp2_with fail
            go_region
            go_wp2_with fail
            go_ret2
            exact ⟨HB1.out.trans ⟨rfl, rfl, rfl, Nat.le_refl _, fun _ _ => rfl⟩, by rw [HN.out]; rfl⟩
          · obtain ⟨n0, rfl⟩ : ∃ n0 : Nat, m = (n0 : Int) := ⟨m.toNat, by omega⟩
            have hIt := (fun W (hb : Below w1.heap.size w1 W) => Itoa_any (n0 : Int) a W (by omega) (by omega) ((hL.below HB1.out).below hb))
            obtain ⟨I, hI⟩ : ∃ I : ByteArray, I = ⟨(Lib.itoa (n0 : Int)).toArray⟩ := ⟨_, rfl⟩
            rw [← hI] at hIt
            have HIt := Lib.hid hIt
            have HI := Lib.hid hI
            clear hIt hI
            have HGet : ∀ u, MapIs u Tryd.prog 9 w.heap.size n look → _ := fun u (hu : MapIs u Tryd.prog 9 w.heap.size n look) => MapIs.get false hu strKey strMap (strZero u) lenB (by decide)
            rw [HVg.out] at HGet
            unfold lenB at HGet
            simp only [Bool.false_eq_true, if_false] at HGet
            have HNum := Lib.hid (num_reads hm)
            have g0 : ¬ (n0 : Int) < 0 := by omega
            have g1 : ¬ (9000 : Int) < (n0 : Int) := by omega
            have d0 : decide ((n0 : Int) < 0) = false := decide_eq_false g0
            have d1 : decide ((9000 : Int) < (n0 : Int)) = false := decide_eq_false g1
            have d2 : decide ((n0 : Int) > 9000) = false := decide_eq_false g1
            have HMd : Hid (MapIs (World.drew w1) Tryd.prog 9 w.heap.size n look) := Lib.hid HM1
            have herr := (hL.below HB1.out).err
            unfold ErrF at herr
            clear hm HA HM c1 c2 m0 m1
            go_wp2_with fail
            refine wp_region_ord (S := fun w' => MapIs w' Tryd.prog 9 w.heap.size n look) [0, 1, 2, 3, 4, 5, 6, 7, 8, 9, 10, 11, 13, 14] [12, 15, 16] (by kernel_rfl) (by kernel_rfl) (fun _ _ _ _ _ h => h) HMd.out ?_
            simp only [pick, List.filterMap_cons, List.filterMap_nil, List.getElem?_toArray, List.getElem?_cons_zero, List.getElem?_cons_succ]
            iterate 14 ((first | (refine wpHead_step (v := ?_) rfl ?_ ?_; rotate_left; (focus (rintro w1 h9; have h8 := HGet w1 h9; go_simp; try with_reducible rfl))) | (refine wpHead_step_w (v := ?_) (by rfl) ?_ ?_; rotate_left; (focus (rintro w1 h9; have h8 := HGet w1 h9; go_simp; try with_reducible rfl))) | (refine wpHead_step_un (by rfl) ?_)); simp only [Act.put, List.setIfInBounds_toArray, List.set_cons_zero, List.set_cons_succ])
            refine wpHead_nil ?_
            refine wpTail_step_w (by rfl) (fun K hK => ?_)
            go_wp2_with fail
            refine (HIt.out _ (Below.refl _ _).drew).mono ?_
            rintro e w2 ⟨rfl, hb2⟩
            have HM2 := HMd.out.below hb2
            have HB2 := Lib.hid (HB1.out.trans ((show Below w1.heap.size w1 (World.drew w1) from (Below.refl _ _).drew).trans hb2 |>.mono HB1.out.size))
            refine hK _ _ HM2 ?_
            clear hK K
            try simp only [Act.put, List.setIfInBounds_toArray, List.set_cons_zero, List.set_cons_succ]
            by_cases hv : I = V
            · have HR : Hid (sizeGo none (dataL ls) = some n0) := Lib.hid (by
                rw [HS.out]
                rcases HNum.out with ⟨n1, h1, h2⟩ | ⟨_, h2⟩
                · rw [h1]; congr 1; omega
                · rcases h2 with h2 | h2 | h2
                  · omega
                  · omega
                  · exfalso; exact h2 (by rw [← hv, HI.out]))
              have q1 := bytes_beq_yes hv
              clear hv HNum
              refine wpTail_step_w (by rfl) (fun K hK => ?_)
              go_wp2_with fail
              refine hK _ _ HM2 ?_
              clear hK K
              try simp only [Act.put, List.setIfInBounds_toArray, List.set_cons_zero, List.set_cons_succ]
              refine wpTail_step_w (by rfl) (fun K hK => ?_)
              go_wp2_with fail
              refine hK _ _ HM2 ?_
              clear hK K
              try simp only [Act.put, List.setIfInBounds_toArray, List.set_cons_zero, List.set_cons_succ]
              refine wpTail_nil ?_
              go_wp2_with fail
              go_ret2
              exact ⟨HB2.out, by rw [HR.out]; rfl⟩
            · have HR : Hid (sizeGo none (dataL ls) = none) := Lib.hid (by
                rw [HS.out]
                rcases HNum.out with ⟨n1, h1, h2⟩ | ⟨h1, _⟩
                · exfalso
                  obtain ⟨h3, h4⟩ := numOf_iff.1 h1
                  obtain rfl : n0 = n1 := by omega
                  rw [HI.out, itoa_digs] at hv
                  exact hv (text_inj h4.symm)
                · exact h1)
              have q1 := bytes_beq_no hv
              have herr2 := (hL.below HB2.out).err
              unfold ErrF at herr2
              clear hv HNum herr
              refine wpTail_step_w (by rfl) (fun K hK => ?_)
              go_wp2_with fail
              refine hK _ _ HM2 ?_
              clear hK K
              try simp only [Act.put, List.setIfInBounds_toArray, List.set_cons_zero, List.set_cons_succ]
              refine wpTail_step_w (by rfl) (fun K hK => ?_)
              go_wp2_with fail
              refine hK _ _ HM2 ?_
              clear hK K
              try simp only [Act.put, List.setIfInBounds_toArray, List.set_cons_zero, List.set_cons_succ]
              refine wpTail_nil ?_
              go_wp2_with fail
              go_region
              go_wp2_with fail
              go_ret2
              exact ⟨HB2.out.drew, by rw [HR.out]; rfl⟩
      · have HN : Hid (sizeGo none (dataL ls) = none) := Lib.hid (by rw [HS.out]; exact num_fails hm)
        have herr := (hL.below HB1.out).err
        unfold ErrF at herr
        clear hm HA HM HM1
        go_wp2_with fail
        go_quiet (fail)
        go_wp2_with fail
        go_region
        go_wp2_with fail
        go_ret2
        exact ⟨HB1.out.trans ⟨rfl, rfl, rfl, Nat.le_refl _, fun _ _ => rfl⟩, by rw [HN.out]; rfl⟩
end Go.Proofs.YtjlehlkkgkplmaaDoor
