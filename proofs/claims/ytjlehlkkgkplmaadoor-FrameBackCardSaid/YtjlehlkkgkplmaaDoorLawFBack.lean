/-
  The law FrameBack: true.
-/
import Derived.Test.YtjlehlkkgkplmaaDoorProg
import Derived.Test.YtjlehlkkgkplmaaDoorReg
import Derived.WalkKit
import Derived.WalkSpells
import Derived.WalkLawsBesides
import Derived.Lib.Hide
import Derived.Lib.MinMax
import Derived.Deep.QuietTactic
import Derived.BigQuiet
import Derived.OwnWalk
import Derived.Deep.AppendLies
import Derived.KernelRfl
import Derived.Test.YtjlehlkkgkplmaaDoorFr2
set_option linter.unusedSimpArgs false
set_option linter.unusedVariables false
namespace Go.Proofs.YtjlehlkkgkplmaaDoor
open Go Go.RowKit

/-- Frames of texts, one behind the other. -/
def putsL (L : List ByteArray) : List UInt8 := (L.map (fun x => putL x.data.toList)).flatten
def moreB : ByteArray := ⟨#[67, 111, 110, 116, 101, 110, 116, 45, 76, 101, 110, 103, 116, 104, 58, 32, 52, 13, 10, 13, 10, 109, 111, 114, 101]⟩
theorem more_put : putB ⟨#[109, 111, 114, 101]⟩ = (moreB, 0) := by decide +kernel
theorem putsL_step {L : List ByteArray} {k : Nat} {x : ByteArray} (h : L[k]? = some x) : putsL (L.take (k + 1)) = putsL (L.take k) ++ putL x.data.toList := by
  unfold putsL; rw [take_one h]; simp
theorem putB_small {x : ByteArray} (h : x.size ≤ 400) : putB x = (⟨(putL x.data.toList).toArray⟩, 0) ∧ (putL x.data.toList).length ≤ 424 := by
  have hz : x.data.toList.length = x.size := rfl
  refine ⟨if_neg (by omega), ?_⟩
  obtain ⟨_, h2⟩ := head_len (n := x.size) (by omega)
  unfold putL
  rw [hz, List.length_append, List.length_append, hz]
  simp
  omega
theorem splitB_puts (L : List ByteArray) (s : ByteArray) (m : Nat) (hs : s.data.toList = putsL L) (hL : ∀ x ∈ L, x.size ≤ 400) (hm : m ≤ 24) : splitB (s ++ moreB.extract 0 m) = (L, moreB.extract 0 m, false) := by
  have he : (moreB.extract 0 m).data.toList = moreB.data.toList.take m := by rw [extract_data _ _ _ (by show m ≤ 25; omega)]; simp
  have e : (s ++ moreB.extract 0 m).data.toList = ((L.map (fun x => x.data.toList)).map putL).flatten ++ (moreB.data.toList.take m) := by
    rw [ByteArray.data_append, Array.toList_append, hs, he]
    unfold putsL
    rw [List.map_map]
    rfl
  have hmp : moreB.data.toList = putL [109, 111, 114, 101] := by
    have := congrArg (fun p => p.1.data.toList) more_put
    exact this.symm
  have hpart : frOf (moreB.data.toList.take m) = .more := by
    rw [hmp]
    exact frOf_part (by decide) (by rw [← hmp]; show m < 25; omega)
  have h := split_puts (moreB.data.toList.take m) (L.map (fun x => x.data.toList)) (fun b hb => by
    obtain ⟨x, hx, rfl⟩ := List.mem_map.1 hb
    have := hL x hx
    show x.size ≤ 9000
    omega)
  rw [← e, splitS_more hpart] at h
  rw [splitB_of h, ← he]
  simp only [List.append_nil, List.map_map]
  congr 1
  refine List.ext_getElem? fun k => ?_
  rw [List.getElem?_map]
  cases L[k]? <;> rfl

set_option maxRecDepth 100000 in
set_option maxHeartbeats 16000000 in
theorem frameBack_any (A : Option Addr) (c : Nat) (l : List ByteArray) (n : Int) (a : Addr) (w : World) (hl : l.length ≤ maxLen) (hs : ∀ (k : Nat) (x : ByteArray), l[k]? = some x → x.size ≤ maxLen) (hn : -9223372036854775808 ≤ n ∧ n ≤ 9223372036854775807) (hH : HoldsS w A l) (hL : LaidF a w) :
    Calls Tryd.prog 6 #[.slice A l.length c, .int .i64 n] w fun e w' => e = .returned (.bool true) ∧ Below w.heap.size w w' := by
  have HS := Lib.hid (shown_any a w hL)
  have HF := Lib.hid (fun W (hb : Below w.heap.size w W) => Few_any 10 A c l W (by omega) hl hs (hH.below hb))
  have hlen := few400_len l 10
  have hsz := few400_size l 10
  generalize few400 l 10 = L at *
  have HSz := Lib.hid hsz
  clear hs hH hl hsz
  go_enter Tryd.func6, Tryd.ntmps6
  go_wp2_with fail
  refine HS.out.mono ?_
  rintro e w1 ⟨rfl, hb1⟩
  have B1 := Lib.hid hb1
  have HFw := Lib.hid (HF.out w1 hb1)
  clear hb1 HS HF
  go_wp2_with fail
  refine HFw.out.mono ?_
  rintro e w2 ⟨v2, rfl, ho2, hb2⟩
  have B2 := Lib.hid (B1.out.trans (hb2.mono B1.out.size))
  obtain ⟨D, dc, rfl⟩ := owns_slice ho2
  have HO2 := Lib.hid ho2
  clear hb2 HFw ho2
  go_wp2_with fail
  go_loopw [6, 7] (fun sv i wr => ∃ (k : Nat) (s : ByteArray), i = .int .i64 k ∧ sv = .string s ∧ k ≤ L.length ∧ Hid (s.data.toList = putsL (L.take k)) ∧ s.size ≤ 424 * k ∧ Hid (wr.ownsRow w1.heap.size sK 1 (.slice D L.length dc) L.length (strCells L)) ∧ Hid (Below w.heap.size w wr)) (fun _ i _ => L.length - (intOf i).toNat)
  case atStart => exact ⟨0, ⟨#[]⟩, rfl, rfl, by omega, Lib.hid rfl, by decide, HO2, B2⟩
  case round =>
    obtain ⟨k, s, rfl, rfl, hk, HD, hsk, HO, HB⟩ := hrel
    have i0 : (0 : Int) ≤ (k : Int) := by omega
    by_cases hlt : k < L.length
    · have i1 : (k : Int) < (L.length : Int) := by omega
      have hx := List.getElem?_eq_getElem hlt
      have hxs := HSz.out _ (List.getElem_mem hlt)
      obtain ⟨A2, c2, e2, -, hH2, -⟩ := holdsS_of_own HO.out
      cases e2
      obtain ⟨b, off, rfl, c1⟩ := hH2 k L[k] hx
      have hst := putsL_step hx
      generalize L[k] = x at *
      obtain ⟨hp, hpl⟩ := putB_small hxs
      have hP := Put_any x a wr (by omega) (hL.below HB.out)
      rw [hp] at hP
      obtain ⟨p, hpe⟩ : ∃ p : ByteArray, p = ⟨(putL x.data.toList).toArray⟩ := ⟨_, rfl⟩
      rw [← hpe] at hP
      have hpz : p.size ≤ 424 := by rw [hpe]; exact hpl
      have hsp := ByteArray.size_append (a := s) (b := p)
      have HD2 : Hid ((s ++ p).data.toList = putsL (L.take (k + 1))) := Lib.hid (by rw [hst, ByteArray.data_append, Array.toList_append, HD.out, hpe])
      have HSp : Hid ((s ++ p).size ≤ 424 * (k + 1)) := Lib.hid (by omega)
      have HP := Lib.hid hP
      clear hx hH2 hst hp hpl hP hpe hsp
      go_wp2_with fail
      refine HP.out.mono ?_
      rintro e w5 ⟨rfl, hb5⟩
      have HO5 := Lib.hid (own_below HO.out hb5)
      have HB5 := Lib.hid (HB.out.trans (hb5.mono HB.out.size))
      clear hb5 HP
      go_wp2_with fail
      go_roundw
      case rel => exact ⟨k + 1, s ++ p, by go_num, rfl, by omega, HD2, HSp.out, HO5, HB5⟩
      case measure => simp [intOf]; omega
    · have i1 : ¬ (k : Int) < (L.length : Int) := by omega
      have hkl : L.take k = L := List.take_of_length_le (by omega)
      have hP := Put_any ⟨#[109, 111, 114, 101]⟩ a wr (by decide) (hL.below HB.out)
      rw [more_put] at hP
      have HP := Lib.hid hP
      obtain ⟨m, hm⟩ : ∃ m : Nat, (m : Int) = min (max n 0) (max 0 24) := ⟨(min (max n 0) (max 0 24)).toNat, by omega⟩
      have hm24 : m ≤ 24 := by omega
      have hM : splitB (s ++ moreB.extract 0 m) = (L, moreB.extract 0 m, false) := splitB_puts L s m (by rw [HD.out, hkl]) HSz.out hm24
      have hsz2 : (s ++ moreB.extract 0 m).size ≤ 10000 := by
        rw [ByteArray.size_append, ByteArray.size_extract]
        have : moreB.size = 25 := by decide
        omega
      have HU := Lib.hid (fun W (hb : Below w.heap.size w W) => (by
        have := Split_any (s ++ moreB.extract 0 m) a W (by omega) (hL.below hb)
        rw [hM] at this
        exact this : Calls Tryd.prog 13 #[.string (s ++ moreB.extract 0 m)] W fun e w' => ∃ v, e = .returned (.tuple #[v, .string (moreB.extract 0 m), .int .i64 (numB false)]) ∧
          w'.ownsRow (W.heap.size + 1) sK 1 v L.length (strCells L) ∧ Below W.heap.size W w'))
      have hmz : moreB.size = 25 := by decide
      have HM := Lib.hid hm
      have hez : (moreB.extract 0 m).size = m := by rw [ByteArray.size_extract]; omega
      clear hP hM hkl hsz2 hm
      generalize moreB = M at *
      have m1 : (m : Int) ≤ (M.size : Int) := by omega
      have m0 : (0 : Int) ≤ (m : Int) := by omega
      go_wp2_with fail
      refine HP.out.mono ?_
      rintro e w5 ⟨rfl, hb5⟩
      have HO5 := Lib.hid (own_below HO.out hb5)
      have HB5 := Lib.hid (HB.out.trans (hb5.mono HB.out.size))
      have HUw := Lib.hid (HU.out w5 HB5.out)
      clear hb5 HP HU
      go_upto_region 13 with fail
      rw [← HM.out]
      have q1 : (numB false == 0) = true := rfl
      go_wp2_with fail
      refine HUw.out.mono ?_
      rintro e w6 ⟨v6, rfl, ho6, hb6⟩
      have HB6 := Lib.hid (HB5.out.trans (hb6.mono HB5.out.size))
      have ho5 := own_below HO5.out hb6
      obtain ⟨A1, c1, e1, -, hH1, -⟩ := holdsS_of_own ho5
      cases e1
      obtain ⟨A8, c8, rfl, -, hH2, -⟩ := holdsS_of_own ho6
      have HT := Lib.hid (Texts_any L L D A8 dc c8 w6 (by omega) (by omega) hH1 hH2)
      have hdec : decide (L = L) = true := by simp
      rw [hdec] at HT
      clear hdec ho5 ho6 hb6 hH1 hH2 HUw
      go_wp2_with fail
      refine HT.out.mono ?_
      rintro e w7 ⟨rfl, hb7⟩
      have HB7 := Lib.hid (HB6.out.trans (hb7.mono HB6.out.size))
      clear hb7
      go_wp2_with fail
      go_ret
      exact ⟨rfl, HB7.out⟩
end Go.Proofs.YtjlehlkkgkplmaaDoor
