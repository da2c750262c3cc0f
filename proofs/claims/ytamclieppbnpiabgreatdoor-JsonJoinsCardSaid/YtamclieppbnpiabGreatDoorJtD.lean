/-
  A key's item, and where it lies: by the program, and by the document's program text.
-/
import Derived.Test.YtamclieppbnpiabGreatDoorProg
import Derived.Test.YtamclieppbnpiabGreatDoorReg
import Derived.WalkKit
import Derived.WalkSpells
import Derived.WalkLawsBesides
import Derived.Lib.Hide
import Derived.Lib.MinMax
import Derived.Deep.QuietTactic
import Derived.BigQuiet
import Derived.OwnWalk
import Derived.Deep.AppendLies
import Derived.KernelRfl
import Derived.Laws.RangeAny
import Derived.Deep.RegionLaw
import Derived.Deep.RegionWith
import Derived.Test.YtamclieppbnpiabGreatDoorJw15
set_option linter.unusedSimpArgs false
set_option linter.unusedVariables false
namespace Go.Proofs.YtamclieppbnpiabGreatDoor
open Go Go.RowKit Go.Sort Go.Shelf
open Fz (HoldsS)

/-- An item, or none; it lies in blocks of D. -/
def GotD (D : Nat → Prop) (o : Option Js) (e : Ending) (w' : World) : Prop := ∃ cs, e = .returned (.tuple #[.agg cs, .bool o.isSome]) ∧ JD D w' (o.getD noJs) cs.toList
theorem noJs_D (D : Nat → Prop) (w : World) : JD D w noJs [.int .i64 0, .bool false, .int .i64 0, .string ByteArray.empty, .slice none 0 0, .slice none 0 0] := fun w' _ => noJs_JC w'
/-- Values one behind the other, each in blocks of D. -/
def HoldsD (D : Nat → Prop) (w : World) (B : Option Addr) (l : List Js) : Prop :=
  ∀ i x, l[i]? = some x → ∃ (b off : Nat) (cs : List Value), B = some ⟨b, off, none⟩ ∧ (∀ j u, cs[j]? = some u → w.cell? ⟨b, off + i * 6 + j, none⟩ = some u) ∧ JD D w x cs
set_option maxRecDepth 100000 in
set_option maxHeartbeats 8000000 in
theorem GetD_any (M : Nat) (hM : M ≤ 1000000000) (v : Js) (hok : okJ M v) (key : ByteArray) (cs : List Value) (w : World) (hJ : JC w v cs) (D : Nat → Prop) (hD : ∀ B d, cs[5]? = some (.slice B v.l.length d) → HoldsD D w B v.l) (hDl : ∀ b, D b → b < w.heap.size) :
    Calls Tryz.prog 11 #[.agg cs.toArray, .string key] w fun e w' => GotD D (getJ v key) e w' ∧ Below w.heap.size w w' := by
  obtain ⟨hx1, hx2, hx3, hx4, hx5, hx6⟩ := okJ_iff.1 hok
  obtain ⟨A1, c1, B1, d1, rfl, hS1, hc1, hd1, hL1⟩ := JC_iff.1 hJ
  have HD := Lib.hid (hD B1 d1 rfl)
  clear hD
  have HI := Lib.hid (fun W h => Index_lib v.keys A1 c1 key W h (by omega))
  have HS := Lib.hid hS1
  have HL := Lib.hid hL1
  have hig := idx_get v.keys v.l key 0
  have HB := Lib.hid (below2 w)
  clear hJ hS1 hL1 hx5 hx6 hok
  by_cases k5 : v.kind = 5
  case neg =>
    have q5 : (v.kind == 5) = false := by simpa using k5
    have HE : Hid (getJ v key = none) := Lib.hid (by unfold getJ; rw [if_neg k5])
    clear k5 hig
    go_enter Tryz.func11, Tryz.ntmps11
    go_wp2_with fail
    refine (HI.out _ (HS.out.below (HB.out _ _))).mono ?_
    rintro e w1 ⟨rfl, rfl⟩
    go_wp2_with fail
    have y0 := box_at2 w (.cells #[.int .i64 v.kind, .bool v.yes, .int .i64 v.n, .string v.s, .slice A1 v.keys.length c1, .slice B1 v.l.length d1] tJ) #[.int .i64 0, .bool false, .int .i64 0, .string ByteArray.empty, .slice none 0 0, .slice none 0 0] 0 _ rfl
    have y1 := box_at2 w (.cells #[.int .i64 v.kind, .bool v.yes, .int .i64 v.n, .string v.s, .slice A1 v.keys.length c1, .slice B1 v.l.length d1] tJ) #[.int .i64 0, .bool false, .int .i64 0, .string ByteArray.empty, .slice none 0 0, .slice none 0 0] 1 _ rfl
    have y2 := box_at2 w (.cells #[.int .i64 v.kind, .bool v.yes, .int .i64 v.n, .string v.s, .slice A1 v.keys.length c1, .slice B1 v.l.length d1] tJ) #[.int .i64 0, .bool false, .int .i64 0, .string ByteArray.empty, .slice none 0 0, .slice none 0 0] 2 _ rfl
    have y3 := box_at2 w (.cells #[.int .i64 v.kind, .bool v.yes, .int .i64 v.n, .string v.s, .slice A1 v.keys.length c1, .slice B1 v.l.length d1] tJ) #[.int .i64 0, .bool false, .int .i64 0, .string ByteArray.empty, .slice none 0 0, .slice none 0 0] 3 _ rfl
    have y4 := box_at2 w (.cells #[.int .i64 v.kind, .bool v.yes, .int .i64 v.n, .string v.s, .slice A1 v.keys.length c1, .slice B1 v.l.length d1] tJ) #[.int .i64 0, .bool false, .int .i64 0, .string ByteArray.empty, .slice none 0 0, .slice none 0 0] 4 _ rfl
    have y5 := box_at2 w (.cells #[.int .i64 v.kind, .bool v.yes, .int .i64 v.n, .string v.s, .slice A1 v.keys.length c1, .slice B1 v.l.length d1] tJ) #[.int .i64 0, .bool false, .int .i64 0, .string ByteArray.empty, .slice none 0 0, .slice none 0 0] 5 _ rfl
    exact bodyPost_ret (v := .tuple #[.agg #[.int .i64 0, .bool false, .int .i64 0, .string ByteArray.empty, .slice none 0 0, .slice none 0 0], .bool false]) (by simp [results, Tryz.results11, go_sem, y0, y1, y2, y3, y4, y5] <;> rfl) rfl ⟨⟨_, by rw [HE.out]; rfl, by rw [HE.out]; exact noJs_D D _⟩, HB.out _ _⟩
  have q5 : (v.kind == 5) = true := by simpa using k5
  have hg : getJ v key = getGo key v.keys v.l := by unfold getJ; rw [if_pos k5]
  rcases hig with ⟨hi, hn⟩ | ⟨k, hi, hkl, hn⟩
  · have hid : Lib.idxOfS v.keys key = -1 := hi
    have HE : Hid (getJ v key = none) := Lib.hid (by rw [hg, hn])
    rw [hid] at HI
    clear k5 hg hn hi hid
    go_enter Tryz.func11, Tryz.ntmps11
    go_wp2_with fail
    refine (HI.out _ (HS.out.below (HB.out _ _))).mono ?_
    rintro e w1 ⟨rfl, rfl⟩
    go_wp2_with fail
    have y0 := box_at2 w (.cells #[.int .i64 v.kind, .bool v.yes, .int .i64 v.n, .string v.s, .slice A1 v.keys.length c1, .slice B1 v.l.length d1] tJ) #[.int .i64 0, .bool false, .int .i64 0, .string ByteArray.empty, .slice none 0 0, .slice none 0 0] 0 _ rfl
    have y1 := box_at2 w (.cells #[.int .i64 v.kind, .bool v.yes, .int .i64 v.n, .string v.s, .slice A1 v.keys.length c1, .slice B1 v.l.length d1] tJ) #[.int .i64 0, .bool false, .int .i64 0, .string ByteArray.empty, .slice none 0 0, .slice none 0 0] 1 _ rfl
    have y2 := box_at2 w (.cells #[.int .i64 v.kind, .bool v.yes, .int .i64 v.n, .string v.s, .slice A1 v.keys.length c1, .slice B1 v.l.length d1] tJ) #[.int .i64 0, .bool false, .int .i64 0, .string ByteArray.empty, .slice none 0 0, .slice none 0 0] 2 _ rfl
    have y3 := box_at2 w (.cells #[.int .i64 v.kind, .bool v.yes, .int .i64 v.n, .string v.s, .slice A1 v.keys.length c1, .slice B1 v.l.length d1] tJ) #[.int .i64 0, .bool false, .int .i64 0, .string ByteArray.empty, .slice none 0 0, .slice none 0 0] 3 _ rfl
    have y4 := box_at2 w (.cells #[.int .i64 v.kind, .bool v.yes, .int .i64 v.n, .string v.s, .slice A1 v.keys.length c1, .slice B1 v.l.length d1] tJ) #[.int .i64 0, .bool false, .int .i64 0, .string ByteArray.empty, .slice none 0 0, .slice none 0 0] 4 _ rfl
    have y5 := box_at2 w (.cells #[.int .i64 v.kind, .bool v.yes, .int .i64 v.n, .string v.s, .slice A1 v.keys.length c1, .slice B1 v.l.length d1] tJ) #[.int .i64 0, .bool false, .int .i64 0, .string ByteArray.empty, .slice none 0 0, .slice none 0 0] 5 _ rfl
    exact bodyPost_ret (v := .tuple #[.agg #[.int .i64 0, .bool false, .int .i64 0, .string ByteArray.empty, .slice none 0 0, .slice none 0 0], .bool false]) (by simp [results, Tryz.results11, go_sem, y0, y1, y2, y3, y4, y5] <;> rfl) rfl ⟨⟨_, by rw [HE.out]; rfl, by rw [HE.out]; exact noJs_D D _⟩, HB.out _ _⟩
  · have hid : Lib.idxOfS v.keys key = (k : Int) := by
      have : Lib.idxOfS v.keys key = ((0 + k : Nat) : Int) := hi
      simpa using this
    rw [hid] at HI
    have i0 : (0 : Int) ≤ (k : Int) := by omega
    by_cases hk : k < v.l.length
    · have i1 : (k : Int) < (v.l.length : Int) := by omega
      have gx := List.getElem?_eq_getElem (l := v.l) (i := k) hk
      generalize v.l[k]'hk = x at *
      have HE : Hid (getJ v key = some x) := Lib.hid (by rw [hg, hn, gx])
      obtain ⟨b1, o1, cs, rfl, hcs1, hJ1⟩ := HD.out k x gx
      have hJ1' := hJ1
      obtain ⟨A2, c2, B2, d2, rfl, _, _, _, _, e0, e1, e2, e3, e4, e5⟩ := six (off := o1 + k * 6) hJ1.jc hcs1
      have HJ1 := Lib.hid hJ1'
      have f0 := cells_keep (HB.out (.cells #[.int .i64 v.kind, .bool v.yes, .int .i64 v.n, .string v.s, .slice A1 v.keys.length c1, .slice (some ⟨b1, o1, none⟩) v.l.length d1] tJ) (.cells #[.int .i64 0, .bool false, .int .i64 0, .string ⟨#[]⟩, .slice none 0 0, .slice none 0 0] tJ)) e0
      have f1 := cells_keep (HB.out (.cells #[.int .i64 v.kind, .bool v.yes, .int .i64 v.n, .string v.s, .slice A1 v.keys.length c1, .slice (some ⟨b1, o1, none⟩) v.l.length d1] tJ) (.cells #[.int .i64 0, .bool false, .int .i64 0, .string ⟨#[]⟩, .slice none 0 0, .slice none 0 0] tJ)) e1
      have f2 := cells_keep (HB.out (.cells #[.int .i64 v.kind, .bool v.yes, .int .i64 v.n, .string v.s, .slice A1 v.keys.length c1, .slice (some ⟨b1, o1, none⟩) v.l.length d1] tJ) (.cells #[.int .i64 0, .bool false, .int .i64 0, .string ⟨#[]⟩, .slice none 0 0, .slice none 0 0] tJ)) e2
      have f3 := cells_keep (HB.out (.cells #[.int .i64 v.kind, .bool v.yes, .int .i64 v.n, .string v.s, .slice A1 v.keys.length c1, .slice (some ⟨b1, o1, none⟩) v.l.length d1] tJ) (.cells #[.int .i64 0, .bool false, .int .i64 0, .string ⟨#[]⟩, .slice none 0 0, .slice none 0 0] tJ)) e3
      have f4 := cells_keep (HB.out (.cells #[.int .i64 v.kind, .bool v.yes, .int .i64 v.n, .string v.s, .slice A1 v.keys.length c1, .slice (some ⟨b1, o1, none⟩) v.l.length d1] tJ) (.cells #[.int .i64 0, .bool false, .int .i64 0, .string ⟨#[]⟩, .slice none 0 0, .slice none 0 0] tJ)) e4
      have f5 := cells_keep (HB.out (.cells #[.int .i64 v.kind, .bool v.yes, .int .i64 v.n, .string v.s, .slice A1 v.keys.length c1, .slice (some ⟨b1, o1, none⟩) v.l.length d1] tJ) (.cells #[.int .i64 0, .bool false, .int .i64 0, .string ⟨#[]⟩, .slice none 0 0, .slice none 0 0] tJ)) e5
      clear hcs1 hJ1 hJ1' gx k5 hg hn hi hid
      go_enter Tryz.func11, Tryz.ntmps11
      go_wp2_with fail
      refine (HI.out _ (HS.out.below (HB.out _ _))).mono ?_
      rintro e w1 ⟨rfl, rfl⟩
      go_wp2_with fail
      have y0 := box_at2 w (.cells #[.int .i64 v.kind, .bool v.yes, .int .i64 v.n, .string v.s, .slice A1 v.keys.length c1, .slice (some ⟨b1, o1, none⟩) v.l.length d1] tJ) #[.int .i64 x.kind, .bool x.yes, .int .i64 x.n, .string x.s, .slice A2 x.keys.length c2, .slice B2 x.l.length d2] 0 _ rfl
      have y1 := box_at2 w (.cells #[.int .i64 v.kind, .bool v.yes, .int .i64 v.n, .string v.s, .slice A1 v.keys.length c1, .slice (some ⟨b1, o1, none⟩) v.l.length d1] tJ) #[.int .i64 x.kind, .bool x.yes, .int .i64 x.n, .string x.s, .slice A2 x.keys.length c2, .slice B2 x.l.length d2] 1 _ rfl
      have y2 := box_at2 w (.cells #[.int .i64 v.kind, .bool v.yes, .int .i64 v.n, .string v.s, .slice A1 v.keys.length c1, .slice (some ⟨b1, o1, none⟩) v.l.length d1] tJ) #[.int .i64 x.kind, .bool x.yes, .int .i64 x.n, .string x.s, .slice A2 x.keys.length c2, .slice B2 x.l.length d2] 2 _ rfl
      have y3 := box_at2 w (.cells #[.int .i64 v.kind, .bool v.yes, .int .i64 v.n, .string v.s, .slice A1 v.keys.length c1, .slice (some ⟨b1, o1, none⟩) v.l.length d1] tJ) #[.int .i64 x.kind, .bool x.yes, .int .i64 x.n, .string x.s, .slice A2 x.keys.length c2, .slice B2 x.l.length d2] 3 _ rfl
      have y4 := box_at2 w (.cells #[.int .i64 v.kind, .bool v.yes, .int .i64 v.n, .string v.s, .slice A1 v.keys.length c1, .slice (some ⟨b1, o1, none⟩) v.l.length d1] tJ) #[.int .i64 x.kind, .bool x.yes, .int .i64 x.n, .string x.s, .slice A2 x.keys.length c2, .slice B2 x.l.length d2] 4 _ rfl
      have y5 := box_at2 w (.cells #[.int .i64 v.kind, .bool v.yes, .int .i64 v.n, .string v.s, .slice A1 v.keys.length c1, .slice (some ⟨b1, o1, none⟩) v.l.length d1] tJ) #[.int .i64 x.kind, .bool x.yes, .int .i64 x.n, .string x.s, .slice A2 x.keys.length c2, .slice B2 x.l.length d2] 5 _ rfl
      exact bodyPost_ret (v := .tuple #[.agg #[.int .i64 x.kind, .bool x.yes, .int .i64 x.n, .string x.s, .slice A2 x.keys.length c2, .slice B2 x.l.length d2], .bool true]) (by simp [results, Tryz.results11, go_sem, y0, y1, y2, y3, y4, y5]) rfl ⟨⟨_, by rw [HE.out]; rfl, by rw [HE.out]; exact HJ1.out.stay (fun b hb => (HB.out _ _).block b (hDl b hb))⟩, HB.out _ _⟩
    · have i1 : ¬ (k : Int) < (v.l.length : Int) := by omega
      have HE : Hid (getJ v key = none) := Lib.hid (by rw [hg, hn, List.getElem?_eq_none (by omega)])
      clear k5 hg hn hi hid hk
      go_enter Tryz.func11, Tryz.ntmps11
      go_wp2_with fail
      refine (HI.out _ (HS.out.below (HB.out _ _))).mono ?_
      rintro e w1 ⟨rfl, rfl⟩
      go_wp2_with fail
      have y0 := box_at2 w (.cells #[.int .i64 v.kind, .bool v.yes, .int .i64 v.n, .string v.s, .slice A1 v.keys.length c1, .slice B1 v.l.length d1] tJ) #[.int .i64 0, .bool false, .int .i64 0, .string ByteArray.empty, .slice none 0 0, .slice none 0 0] 0 _ rfl
      have y1 := box_at2 w (.cells #[.int .i64 v.kind, .bool v.yes, .int .i64 v.n, .string v.s, .slice A1 v.keys.length c1, .slice B1 v.l.length d1] tJ) #[.int .i64 0, .bool false, .int .i64 0, .string ByteArray.empty, .slice none 0 0, .slice none 0 0] 1 _ rfl
      have y2 := box_at2 w (.cells #[.int .i64 v.kind, .bool v.yes, .int .i64 v.n, .string v.s, .slice A1 v.keys.length c1, .slice B1 v.l.length d1] tJ) #[.int .i64 0, .bool false, .int .i64 0, .string ByteArray.empty, .slice none 0 0, .slice none 0 0] 2 _ rfl
      have y3 := box_at2 w (.cells #[.int .i64 v.kind, .bool v.yes, .int .i64 v.n, .string v.s, .slice A1 v.keys.length c1, .slice B1 v.l.length d1] tJ) #[.int .i64 0, .bool false, .int .i64 0, .string ByteArray.empty, .slice none 0 0, .slice none 0 0] 3 _ rfl
      have y4 := box_at2 w (.cells #[.int .i64 v.kind, .bool v.yes, .int .i64 v.n, .string v.s, .slice A1 v.keys.length c1, .slice B1 v.l.length d1] tJ) #[.int .i64 0, .bool false, .int .i64 0, .string ByteArray.empty, .slice none 0 0, .slice none 0 0] 4 _ rfl
      have y5 := box_at2 w (.cells #[.int .i64 v.kind, .bool v.yes, .int .i64 v.n, .string v.s, .slice A1 v.keys.length c1, .slice B1 v.l.length d1] tJ) #[.int .i64 0, .bool false, .int .i64 0, .string ByteArray.empty, .slice none 0 0, .slice none 0 0] 5 _ rfl
      exact bodyPost_ret (v := .tuple #[.agg #[.int .i64 0, .bool false, .int .i64 0, .string ByteArray.empty, .slice none 0 0, .slice none 0 0], .bool false]) (by simp [results, Tryz.results11, go_sem, y0, y1, y2, y3, y4, y5] <;> rfl) rfl ⟨⟨_, by rw [HE.out]; rfl, by rw [HE.out]; exact noJs_D D _⟩, HB.out _ _⟩
end Go.Proofs.YtamclieppbnpiabGreatDoor
