/-
  The first frame of what is left: by the program.
-/
import Derived.Test.YtjlehlkkgkplmaaDoorProg
import Derived.Test.YtjlehlkkgkplmaaDoorReg
import Derived.WalkKit
import Derived.WalkSpells
import Derived.WalkLawsBesides
import Derived.Lib.Hide
import Derived.Lib.MinMax
import Derived.Deep.QuietTactic
import Derived.BigQuiet
import Derived.OwnWalk
import Derived.Deep.AppendLies
import Derived.KernelRfl
import Derived.Test.YtjlehlkkgkplmaaDoorFrF
set_option linter.unusedSimpArgs false
set_option linter.unusedVariables false
namespace Go.Proofs.YtjlehlkkgkplmaaDoor
open Go Go.RowKit Go.Maps

theorem linesR_len : ∀ (k : Nat) (cur l : List UInt8), (linesR k cur l).length ≤ l.length + 1 ∧ ∀ x ∈ linesR k cur l, x.length ≤ cur.length + l.length
  | 0, cur, l => by simp [linesR]
  | k + 1, cur, [] => by simp [linesR]
  | k + 1, cur, c :: l => by
    rw [linesR]
    split
    · obtain ⟨h1, h2⟩ := linesR_len k [] (l.drop 1)
      rw [List.length_drop] at h1
      refine ⟨by rw [List.length_cons, List.length_cons]; omega, fun x hx => ?_⟩
      rcases List.mem_cons.1 hx with rfl | hx
      · omega
      · have := h2 x hx
        rw [List.length_drop, List.length_nil] at this
        simp
        omega
    · obtain ⟨h1, h2⟩ := linesR_len k (cur ++ [c]) l
      refine ⟨by simp; omega, fun x hx => ?_⟩
      have := h2 x hx
      simp at this
      simp
      omega
theorem linesB_small (s : ByteArray) (h : s.size ≤ 100) : (linesB s).length ≤ 200 ∧ ∀ x ∈ linesB s, x.size ≤ 1000 := by
  obtain ⟨h1, h2⟩ := linesR_len (s.data.toList.length + 1) [] s.data.toList
  have e : linesR (s.data.toList.length + 1) [] s.data.toList = (linesB s).map (fun l => l.data.toList) := (linesB_data s).symm
  have hz : s.data.toList.length = s.size := rfl
  rw [e, List.length_map] at h1
  refine ⟨by omega, fun x hx => ?_⟩
  have := h2 x.data.toList (by rw [e]; exact List.mem_map_of_mem hx)
  rw [List.length_nil, hz] at this
  show x.data.toList.length ≤ 1000
  omega
theorem headSize_lines (s : ByteArray) : sizeGo none (dataL (linesB s)) = headSize s.data.toList := by
  unfold dataL headSize
  rw [linesB_data]

/-- What is left of a stream lies at X (a row of type T): s; is it wrong? -/
def IsLf (w : World) (X : Nat) (T : TypeId) (a : Addr) (s : ByteArray) (bad : Bool) : Prop := w.heap[X]? = some (.cells #[.string s, errVal a bad] T (0, 0))
theorem IsLf.below {w w' : World} {X : Nat} {T : TypeId} {a : Addr} {s : ByteArray} {bad : Bool} (h : IsLf w X T a s bad) (hb : Below w.heap.size w w') : IsLf w' X T a s bad := (hb.block X (Array.getElem?_eq_some_iff.1 h).1).trans h
theorem IsLf.c0 {w : World} {X : Nat} {T : TypeId} {a : Addr} {s : ByteArray} {bad : Bool} (h : IsLf w X T a s bad) : w.cell? ⟨X, 0, none⟩ = some (.string s) := by simp [World.cell?, show w.heap[X]? = _ from h]
theorem IsLf.c1 {w : World} {X : Nat} {T : TypeId} {a : Addr} {s : ByteArray} {bad : Bool} (h : IsLf w X T a s bad) : w.cell? ⟨X, 1, none⟩ = some (errVal a bad) := by simp [World.cell?, show w.heap[X]? = _ from h]
theorem IsLf.lt {w : World} {X : Nat} {T : TypeId} {a : Addr} {s : ByteArray} {bad : Bool} (h : IsLf w X T a s bad) : X < w.heap.size := (Array.getElem?_eq_some_iff.1 h).1
theorem IsLf.z {w : World} {X : Nat} {T : TypeId} {a : Addr} {s : ByteArray} {bad : Bool} (h : IsLf w X T a s bad) (j : Nat) : w.frozen? ⟨X, j, none⟩ = false := frozen_of_row w X j _ _ h
theorem IsLf.put {w : World} {X : Nat} {T : TypeId} {a : Addr} {s : ByteArray} {bad : Bool} (h : IsLf w X T a s bad) (t : ByteArray) : IsLf (w.setCell ⟨X, 0, none⟩ (.string t)) X T a t bad := by
  unfold IsLf
  rw [heap_setCell_same w X 0 _ _ _ h]
  simp
theorem IsLf.put1 {w : World} {X : Nat} {T : TypeId} {a : Addr} {s : ByteArray} {bad : Bool} (h : IsLf w X T a s bad) (b2 : Bool) : IsLf (w.setCell ⟨X, 1, none⟩ (errVal a b2)) X T a s b2 := by
  unfold IsLf
  rw [heap_setCell_same w X 1 _ _ _ h]
  simp
/-- What the first frame is, and what is left behind it. -/
def frPair (s : ByteArray) : ByteArray × Bool × ByteArray × Bool := match frOf s.data.toList with
  | .more => (⟨#[]⟩, false, s, false)
  | .bad => (⟨#[]⟩, false, ⟨#[]⟩, true)
  | .got h n => (s.extract h (h + n), true, s.extract (h + n) s.size, false)
theorem frOf_none {s : List UInt8} (h : endOf (s.take 100) = none) : frOf s = if 100 ≤ s.length ∨ s.take 2 = [13, 10] then .bad else .more := by
  unfold frOf; rw [h]
theorem frOf_some {s : List UInt8} {i : Nat} (h : endOf (s.take 100) = some i) : frOf s = match headSize (s.take i) with | none => .bad | some n => if s.length < i + 4 + n then .more else .got (i + 4) n := by
  unfold frOf; rw [h]; rfl
theorem cut_none {s : List UInt8} (h : endOf s = none) : Lib.cut s [13, 10, 13, 10] = (s, [], false) := by
  unfold Lib.cut
  rw [endOf_index, h]
  rfl
theorem cut_some {s : List UInt8} {i : Nat} (h : endOf s = some i) : Lib.cut s [13, 10, 13, 10] = (s.take i, s.drop (i + 4), true) := by
  unfold Lib.cut
  rw [endOf_index, h]
  simp only
  rw [if_pos (by omega)]
  simp
theorem extract_data (s : ByteArray) (i j : Nat) (hj : j ≤ s.size) : (s.extract i j).data.toList = (s.data.toList.drop i).take (j - i) := by
  rw [ByteArray.data_extract, Array.toList_extract]
theorem grown_more {w w1 w2 : World} {X : Nat} (h : w.grownBy w1 (some X)) (hb : Below w1.heap.size w1 w2) : w.grownBy w2 (some X) :=
  ⟨hb.os.trans h.os, hb.tape.trans h.tape, hb.output.trans h.output, Nat.le_trans h.size hb.size, fun k hk hn => (hb.block k (Nat.lt_of_lt_of_le hk h.size)).trans (h.block k hk hn)⟩
theorem grown_set {w w1 : World} {X : Nat} (h : w.grownBy w1 (some X)) (j : Nat) (v : Value) : w.grownBy (w1.setCell ⟨X, j, none⟩ v) (some X) :=
  ⟨h.os, h.tape, h.output, by simpa [World.setCell] using h.size, fun k hk hn => (heap_setCell_other _ _ _ _ (fun e => hn (by rw [e]))).trans (h.block k hk hn)⟩
theorem grown_low {w w1 : World} (X : Nat) (h : Below w.heap.size w w1) : w.grownBy w1 (some X) := ⟨h.os, h.tape, h.output, h.size, fun k hk _ => h.block k hk⟩

theorem jump_ret {l : Nat} {J : Act → World → Prop} {Q : Exit → Act → World → Prop} {a : Act} {w : World} (h : Q .ret a w) : Exit.jump l J Q .ret a w := h

set_option maxRecDepth 100000 in
set_option maxHeartbeats 8000000 in
theorem frame_any (X : Nat) (T : TypeId) (a : Addr) (s : ByteArray) (w : World) (hs : s.size ≤ 1000000) (h : IsLf w X T a s false) (hL : LaidF a w) :
    Calls Tryd.prog 37 #[.pointer (some ⟨X, 0, none⟩)] w fun e w' =>
      e = .returned (.tuple #[.string (frPair s).1, .bool (frPair s).2.1]) ∧ w.grownBy w' (some X) ∧ IsLf w' X T a (frPair s).2.2.1 (frPair s).2.2.2 := by
  have c0 := h.c0
  have lX := h.lt
  have HP := Lib.hid h
  obtain ⟨F, hF⟩ : ∃ F, F = s.extract 0 (min s.size 100) := ⟨_, rfl⟩
  have hFd : F.data.toList = s.data.toList.take 100 := by
    rw [hF, extract_data _ _ _ (by omega), List.drop_zero, Nat.sub_zero]
    have hz : s.size = s.data.toList.length := rfl
    rw [hz, Nat.min_comm]
    exact List.take_eq_take_min.symm
  have hFz : F.size = min s.size 100 := by
    have := congrArg List.length hFd
    rw [List.length_take] at this
    have hz : s.size = s.data.toList.length := rfl
    have hy : F.size = F.data.toList.length := rfl
    omega
  have m0 : (0 : Int) ≤ min (s.size : Int) 100 := by omega
  have m1 : min (s.size : Int) 100 ≤ (s.size : Int) := by omega
  have m2 : (min (s.size : Int) 100).toNat = min s.size 100 := by omega
  cases he : endOf (s.data.toList.take 100) with
  | none =>
    have hc := cut_none he
    rw [← hFd] at hc
    have HC := Lib.hid (fun W (hb : Below w.heap.size w W) => Cut_at F ⟨#[13, 10, 13, 10]⟩ F ⟨#[]⟩ false a W (by omega) (hL.below hb) hc)
    have HF := Lib.hid (frOf_none he)
    have HFd := Lib.hid hFd
    have HFz := Lib.hid hFz
    clear hFd he hc hFz
    go_enter Tryd.func37, Tryd.ntmps37
    go_wp2_with fail
    refine wp_scope_fwd 0 rfl ?_
    go_wp2_with fail
    go_region
    go_wp2_with fail
    rw [← hF]
    refine (HC.out _ (Below.refl _ _).drew).mono ?_
    rintro e w1 ⟨rfl, hb1⟩
    have hb : Below w.heap.size w w1 := (show Below w.heap.size w (World.drew w) from (Below.refl _ _).drew).trans hb1
    have HX := Lib.hid (HP.out.below hb)
    have HB := Lib.hid hb
    have k0 := HX.out.c0
    have k1 := HX.out.c1
    have z0 := HX.out.z 0
    have z1 := HX.out.z 1
    have herr := (hL.below hb).err
    unfold ErrF at herr
    have lx1 := HX.out.lt
    clear hb hb1 h c0 hF m0 m1 m2 HC
    by_cases h100 : F.size = 100
    · have q : ((F.size : Int) == 100) = true := by rw [h100]; rfl
      have HFr : Hid (frPair s = (⟨#[]⟩, false, ⟨#[]⟩, true)) := Lib.hid (by
        have hz : s.size = s.data.toList.length := rfl
        have hFz := HFz.out
        unfold frPair
        rw [HF.out, if_pos (.inl (by omega))])
      clear h100
      go_wp2_with fail
      go_step3
      refine ⟨rfl, ?_⟩
      go_wp2_with fail
      try rw [Exit.noGoto_ret]
      go_ret2
      rw [HFr.out]
      exact ⟨rfl, grown_set (grown_set (grown_low X HB.out) _ _) _ _, (HX.out.put ⟨#[]⟩).put1 true⟩
    · have q : ((F.size : Int) == 100) = false := by simpa using (fun e : (F.size : Int) = 100 => h100 (by omega))
      have HPre := Lib.hid (Lay_strings_HasPrefix F ⟨#[13, 10]⟩ w1)
      have HFr : Hid (frPair s = if Lib.hasPrefix F.data.toList [13, 10] = true then (⟨#[]⟩, false, ⟨#[]⟩, true) else (⟨#[]⟩, false, s, false)) := Lib.hid (by
        have hz : s.size = s.data.toList.length := rfl
        have ht : F.data.toList.take 2 = s.data.toList.take 2 := by rw [HFd.out, List.take_take]; rfl
        have hFz := HFz.out
        have hpr : Lib.hasPrefix F.data.toList [13, 10] = true ↔ s.data.toList.take 2 = [13, 10] := by rw [← ht]; exact pre_take _ _
        unfold frPair
        rw [HF.out]
        by_cases hp : Lib.hasPrefix F.data.toList [13, 10] = true
        · simp only [if_pos hp, if_pos (Or.inr (hpr.1 hp) : 100 ≤ s.data.toList.length ∨ s.data.toList.take 2 = [13, 10])]
        · have hn : ¬ (100 ≤ s.data.toList.length ∨ s.data.toList.take 2 = [13, 10]) := by
            rintro (e | e)
            · omega
            · exact hp (hpr.2 e)
          simp only [if_neg hp, if_neg hn])
      clear h100
      go_wp2_with fail
      refine HPre.out.mono ?_
      rintro e w2 ⟨rfl, rfl⟩
      cases hp : Lib.hasPrefix F.data.toList [13, 10] with
      | true =>
        rw [hp, if_pos rfl] at HFr
        clear hp
        go_wp2_with fail
        go_step3
        refine ⟨rfl, ?_⟩
        go_wp2_with fail
        try rw [Exit.noGoto_ret]
        go_ret2
        rw [HFr.out]
        exact ⟨rfl, grown_set (grown_set (grown_low X HB.out) _ _) _ _, (HX.out.put ⟨#[]⟩).put1 true⟩
      | false =>
        rw [hp, if_neg (by decide)] at HFr
        clear hp
        go_wp2_with fail
        go_step3
        refine ⟨rfl, ?_⟩
        go_wp2_with fail
        try rw [Exit.noGoto_ret]
        go_ret2
        rw [HFr.out]
        exact ⟨rfl, grown_low X HB.out, HX.out⟩
  | some i =>
    have hc := cut_some he
    rw [← hFd] at hc
    have hi := (endOf_lt _ _ he).1
    obtain ⟨H, hH⟩ : ∃ H : ByteArray, H = ⟨(F.data.toList.take i).toArray⟩ := ⟨_, rfl⟩
    have hHd : H.data.toList = F.data.toList.take i := by rw [hH]
    rw [← hFd] at hi
    have hHz : H.size = i := by
      have := congrArg List.length hHd
      rw [List.length_take] at this
      have hy : H.size = H.data.toList.length := rfl
      omega
    have hiz : i + 4 ≤ F.size := hi
    have hHs : H.data.toList = s.data.toList.take i := by rw [hHd, hFd, List.take_take, Nat.min_eq_left (by omega)]
    have hls := linesB_small H (by omega)
    have hhz := headSize_lines H
    rw [hHs] at hhz
    have HC := Lib.hid (fun W (hb : Below w.heap.size w W) => Cut_at F ⟨#[13, 10, 13, 10]⟩ H ⟨(F.data.toList.drop (i + 4)).toArray⟩ true a W (by omega) (hL.below hb) (by rw [hc, hHd]))
    have HS := Lib.hid (fun W (hb : Below w.heap.size w W) => Split_lines H a W (by omega) (hL.below hb))
    have HF := Lib.hid (frOf_some he)
    have HN := Lib.hid hhz
    have HFz := Lib.hid hFz
    clear hFd he hc hH hHd hHs hhz hFz
    go_enter Tryd.func37, Tryd.ntmps37
    go_wp2_with fail
    refine wp_scope_fwd 0 rfl ?_
    go_wp2_with fail
    go_region
    go_wp2_with fail
    rw [← hF]
    refine (HC.out _ (Below.refl _ _).drew).mono ?_
    rintro e w1 ⟨rfl, hb1⟩
    have hb : Below w.heap.size w w1 := (show Below w.heap.size w (World.drew w) from (Below.refl _ _).drew).trans hb1
    have HB := Lib.hid hb
    clear hb hb1 h c0 hF m0 m1 m2 HC
    go_wp2_with fail
    refine (HS.out _ HB.out).mono ?_
    rintro e w2 ⟨rfl, hw2⟩
    have hb2 : Below w1.heap.size w1 w2 := by rw [hw2]; exact below_new _ _
    have hH2 : HoldsS w2 (some ⟨w1.heap.size, 0, none⟩) (linesB H) := fun k x hx => ⟨_, _, rfl, by
      rw [hw2]
      have := heap_alloc_new w1 (.cells ((linesB H).map Value.string).toArray 9)
      rw [Nat.zero_add]
      unfold World.cell?
      simp only
      rw [this]
      simp [hx]⟩
    have HB2 := Lib.hid (HB.out.trans (hb2.mono HB.out.size))
    have HSz := Lib.hid (size_any a (some ⟨w1.heap.size, 0, none⟩) (linesB H).length (linesB H) w2 hls.1 hls.2 hH2 (hL.below HB2.out))
    clear hb2 hH2 hw2 hls HS
    go_wp2_with fail
    refine HSz.out.mono ?_
    rintro e w3 ⟨hb3, rfl⟩
    have HB3 := Lib.hid (HB2.out.trans (hb3.mono HB2.out.size))
    rw [HN.out]
    clear hb3 HSz
    have HX := Lib.hid (HP.out.below HB3.out)
    have k0 := HX.out.c0
    have k1 := HX.out.c1
    have z0 := HX.out.z 0
    have z1 := HX.out.z 1
    have lx1 := HX.out.lt
    cases hn : headSize (s.data.toList.take i) with
    | none =>
      have HFr : Hid (frPair s = (⟨#[]⟩, false, ⟨#[]⟩, true)) := Lib.hid (by
        unfold frPair
        rw [HF.out, hn])
      clear hn HN
      unfold sizeVal errVal
      go_wp2_with fail
      go_step3
      refine ⟨rfl, ?_⟩
      go_wp2_with fail
      try rw [Exit.noGoto_ret]
      go_ret2
      rw [HFr.out]
      exact ⟨rfl, grown_set (grown_set (grown_low X HB3.out) _ _) _ _, (HX.out.put ⟨#[]⟩).put1 true⟩
    | some n =>
      have HFr : Hid (frPair s = if s.size < i + 4 + n then (⟨#[]⟩, false, s, false) else (s.extract (i + 4) (i + 4 + n), true, s.extract (i + 4 + n) s.size, false)) := Lib.hid (by
        have hz : s.size = s.data.toList.length := rfl
        unfold frPair
        rw [HF.out, hn]
        simp only
        rw [← hz]
        by_cases h : s.size < i + 4 + n
        · simp only [if_pos h]
        · simp only [if_neg h])
      clear hn HN
      unfold sizeVal
      have hFz := HFz.out
      have i0 : i ≤ 96 := by omega
      have i1 : (i : Int) + 4 ≤ (s.size : Int) := by omega
      have i2 : i + 4 ≤ s.size := by omega
      clear hFz hi hiz
      by_cases hn : s.size < i + 4 + n
      · have j1 : (s.size : Int) - ((i : Int) + 4) < (n : Int) := by omega
        have j2 : ¬ (n : Int) ≤ (s.size : Int) - ((i : Int) + 4) := by omega
        rw [if_pos hn] at HFr
        go_wp2_with fail
        go_step3
        go_wp2_with fail
        refine jump_ret ?_
        go_ret2
        rw [HFr.out]
        exact ⟨rfl, grown_low X HB3.out, HX.out⟩
      · have j1 : ¬ (s.size : Int) - ((i : Int) + 4) < (n : Int) := by omega
        have j2 : (n : Int) ≤ (s.size : Int) - ((i : Int) + 4) := by omega
        rw [if_neg hn] at HFr
        have HE : Hid ((s.extract (i + 4) s.size).extract 0 n = s.extract (i + 4) (i + 4 + n) ∧ (s.extract (i + 4) s.size).extract n (s.size - (i + 4)) = s.extract (i + 4 + n) s.size) := Lib.hid (by
          constructor
          · rw [ByteArray.extract_extract, Nat.add_zero, Nat.min_eq_left (by omega)]
          · rw [ByteArray.extract_extract, Nat.min_eq_right (by omega)])
        have HZ3 := Lib.hid (grown_low X HB3.out)
        go_wp2_with fail
        refine jump_ret ?_
        go_ret2
        rw [HFr.out]
        exact ⟨by rw [HE.out.1]; rfl, grown_set HZ3.out _ _, by rw [HE.out.2]; exact HX.out.put _⟩
end Go.Proofs.YtjlehlkkgkplmaaDoor
