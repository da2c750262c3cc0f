/-
  XNdKd, turned: what this seat needs of it.
-/
import Derived.Test.YtebejlnegalokaaGreatDoorProg
import Derived.Test.YtebejlnegalokaaGreatDoorReg
import Derived.WalkKit
import Derived.WalkSpells
import Derived.WalkLawsBesides
import Derived.Lib.Hide
import Derived.Lib.MinMax
import Derived.Deep.QuietTactic
import Derived.BigQuiet
import Derived.OwnWalk
import Derived.Deep.AppendLies
import Derived.KernelRfl
import Derived.WalkKit
import Derived.Test.YtebejlnegalokaaGreatDoorBytes
import Derived.Laws.OwnMore
import Derived.Test.YtebejlnegalokaaGreatDoorMapI
import Derived.Deep.RegionWith
import Derived.Deep.CutBlock
import Derived.Deep.OwnRows
import Derived.LaidEql
import Derived.Stop.Asserts
import Derived.RowKitTokens
import Derived.Shelf.Strings.Builder1
import Derived.Shelf.Small.Strs
import Derived.Shelf.Strings.BuilderF
import Derived.Shelf.Strings.BuilderK
import Derived.Shelf.Strconv.Itoa0
import Derived.Shelf.Strconv.Itoa1
import Derived.Shelf.LaysM
import Derived.Shelf.Strconv.Itoa2
import Derived.Shelf.Strconv.Itoa3
import Derived.Shelf.Strings.Search1
import Derived.Lib.FrozenHead2
import Derived.Laws.IdiomStrings
import Derived.Lib.MinMax
import Derived.Maps.AppendAt
import Derived.Lib.Builder
import Derived.OneCell
import Derived.Test.YtebejlnegalokaaGreatDoorRegZ
import Derived.Deep.Upon
import Derived.Laws.CopyOwn
import Derived.Deep.QuietTactic
import Derived.BigQuiet
import Derived.RangeFuncNested
import Derived.RangeFuncBound
import Derived.RangeFuncCalls
import Derived.RangeFuncLeaves
import Derived.RangeFuncBox
import Derived.OwnWalkIn
import Derived.TacticsInMore
import Derived.LoopNIn
import Derived.LoopIn
import Derived.Deep.RegionLaw
import Derived.Deep.Cut
import Derived.Test.YtebejlnegalokaaGreatDoorRegIn
import Derived.Test.YtebejlnegalokaaGreatDoorJoint
import Derived.Test.YtebejlnegalokaaGreatDoorPaLay
import Derived.Test.YtebejlnegalokaaGreatDoorNzM8
import Derived.ChangeMaps5
import Derived.Deep.Slices
import Derived.WideShapes
set_option linter.unusedSimpArgs false
set_option linter.unusedVariables false
namespace Go.Proofs.YtebejlnegalokaaGreatDoor.Nz
open Go.RowKit
attribute [local go_sem] Oper.semAt_some
theorem fold_min_out {g : Int → Nat} : ∀ (l : List Int) (b c : Nat), min (l.foldl (fun m k => min m (g k)) b) c = l.foldl (fun m k => min m (g k)) (min b c)
  | [], _, _ => rfl
  | k :: l, b, c => by
    rw [List.foldl_cons, List.foldl_cons, fold_min_out l]
    congr 1
    omega
theorem fold_places {t : List Nd} (h : nodesOk 0 t = true) : ∀ (n i : Nat), i < n → i < t.length → ∀ b, (placesAt t i).foldl min b = min b (firstAt t i)
  | 0, i, h1, _ => by omega
  | n + 1, i, h1, h2 => fun b => by
    have g := List.getElem?_eq_getElem h2
    have key : ∀ (l : List Int), (∀ k ∈ l, k ∈ (t[i]).kids) → ∀ b, (l.flatMap (fun k => placesAt t k.toNat)).foldl min b = l.foldl (fun m k => min m (firstAt t k.toNat)) b := by
      intro l
      induction l with
      | nil => intro _ b; rfl
      | cons k l ih =>
        intro hl b
        have hk := nodes_kid h h2 (k := k) (by rw [nodeAt_some g]; exact hl k List.mem_cons_self)
        rw [List.flatMap_cons, List.foldl_append, fold_places h n k.toNat (by omega) (by omega), List.foldl_cons, ih (fun y hy => hl y (List.mem_cons_of_mem _ hy))]
    rw [placesAt_eq h h2 g, List.foldl_append, key _ (fun k hk => hk), firstAt_eq h h2 g]
    show min ((t[i]).kids.foldl (fun m k => min m (firstAt t k.toNat)) b) i = _
    rw [fold_min_out, Nat.min_comm b i, Nat.min_comm b, fold_min_out]
theorem fold_first {t : List Nd} (h : nodesOk 0 t = true) {i : Nat} (hi : i < t.length) : (placesAt t i).foldl min i = firstAt t i := by
  rw [fold_places h (i + 1) i (by omega) hi, Nat.min_eq_right (firstAt_le h hi)]
theorem field_kids (k : Int) (s : ByteArray) (B : Option Addr) (n c : Nat) (W : World) : (Instr.field 49 (.agg #[.int .i64 k, .string s, .slice B n c]) 2).run Tryz.prog W = .ok (.slice B n c) W := by kernel_rfl
/-- What a kid gives. -/
def KidGot (t : List Nd) (n : Int) (e : Ending) (w w' : World) : Prop :=
  (match kidN t n with
   | none => e = .returned (.tuple #[.slice none 0 0, .int .i64 70])
   | some out => ∃ v L, e = .returned (.tuple #[v, .int .i64 0]) ∧ HasN w' w.heap.size v L ∧ L.map Prod.fst = out) ∧ Below w.heap.size w w'
theorem IntN.sub {t u : List Nd} (h : IntN t) (hu : ∀ x ∈ u, x ∈ t) : IntN u := fun x hx => h x (hu x hx)
theorem IntN.movedS {by_ : Int} {t : List Nd} (h : IntN t) (hk : ∀ x ∈ t, ∀ k ∈ x.kids, -1000000 ≤ k ∧ k ≤ 1000000) (h1 : -1000000 ≤ by_) (h2 : by_ ≤ 1000000) : IntN (movedN by_ t) := by
  intro x hx
  unfold movedN at hx
  obtain ⟨y, hy, rfl⟩ := List.mem_map.1 hx
  obtain ⟨a1, a2, a3, a4⟩ := h y hy
  refine ⟨a1, by simpa using a2, a3, fun k hk' => ?_⟩
  obtain ⟨j, hj, rfl⟩ := List.mem_map.1 hk'
  have := hk y hy j hj
  exact wf_small (by omega) (by omega)
/-- The nodes of a kid's tree. -/
def subOf (t : List Nd) (at_ : Nat) : List Nd := (t.drop (firstAt t at_)).take (at_ + 1 - firstAt t at_)
theorem kidOf_eq (t : List Nd) (n : Nat) : kidOf t n = movedN (-(firstAt t ((rootKids t).getD n 0).toNat : Int)) (subOf t ((rootKids t).getD n 0).toNat) := rfl
/-- What the loop over the places holds. -/
structure FrameK (w4 : World) (T l1 D1 at_ : Nat) (r : Loop) (ps : List Nat) (W : World) : Prop where
  low : Below w4.heap.size w4 W
  box : W.heap[w4.heap.size]? = some (.cells #[.int .i64 ((ps.foldl min at_ : Nat) : Int)] 3 (0, 0))
  tb : W.heap[w4.heap.size + 1]? = some (.cells #[.pointer (some ⟨T, 0, none⟩)] 61 (0, 0))
  ab : W.heap[w4.heap.size + 2]? = some (.cells #[.int .i64 (at_ : Int)] 3 (0, 0))
  books : Books l1 D1 r W
theorem FrameK.below {w4 : World} {T l1 D1 at_ : Nat} {r : Loop} {ps : List Nat} {W W' : World} {n : Nat} (h : FrameK w4 T l1 D1 at_ r ps W) (hb : Below n W W') (hn : w4.heap.size + 2 < n) (hl : l1 < n) (hD : D1 < n) : FrameK w4 T l1 D1 at_ r ps W' :=
  ⟨h.low.trans (hb.mono (by omega)), (hb.block _ (by omega)).trans h.box, (hb.block _ (by omega)).trans h.tb, (hb.block _ hn).trans h.ab, ⟨(hb.block _ hl).trans h.books.lp, (hb.block _ hD).trans h.books.calls, h.books.ne⟩⟩
theorem HasN.put {w : World} {base D : Nat} {v : Value} {L : List (Nd × Value)} {o : Obj} (h : HasN w base v L) (o' : Obj) (hD : w.heap[D]? = some o) (hc : o.isCells = false) : HasN (w.putObj D o') base v L :=
  ⟨ownsRow_putObj h.row o' hD hc, fun p hp => ownsRow_putObj (h.kids p hp) o' hD hc⟩
set_option maxRecDepth 100000 in
set_option maxHeartbeats 8000000 in
theorem kidOf_any (t : List Nd) (n : Int) (A : Option Addr) (c : Nat) (a : Addr) (w : World) (hh : HoldsN w A t) (hi : IntN t) (hcap : t.length ≤ c) (hl : t.length ≤ 100000) (he : errNodeAt a w) :
    Calls Tryz.prog 18 #[.slice A t.length c, .int .i64 n] w fun e w' => KidGot t n e w w' := by
  have hgl := cell_lt he
  simp only at hgl
  have hT0 : TreeAt (w.alloc (.cells #[.slice A t.length c] 63)) w.heap.size A t.length c := heap_alloc_new _ _
  have hB0 : Below w.heap.size w (w.alloc (.cells #[.slice A t.length c] 63)) := (Below.refl _ _).alloc (Nat.le_refl _) _
  have hz0 : (w.alloc (.cells #[.slice A t.length c] 63)).heap.size = w.heap.size + 1 := by simp
  refine calls_of_wp_marks 3 Tryz.func18 rfl ?_
  simp only [Tryz.ntmps18, List.size_toArray, List.length_cons, List.length_nil, Nat.reduceAdd, Nat.reduceSub, Array.replicate_succ, Array.replicate_zero, List.push_toArray, List.append_toArray, List.nil_append, List.cons_append]
  go_wp2_with fail
  generalize w.alloc (.cells #[.slice A t.length c] 63) = w1 at *
  have hh1 := hh.below hB0
  have he1 : errNodeAt a w1 := (hB0.cell (p := ⟨0, 0, none⟩) hgl).trans he
  refine (right_any t A c w1 hh1 hi).mono ?_
  rintro e w2 ⟨rfl, hb2⟩
  have hT2 := hT0.below hb2
  have hh2 := hh1.below hb2
  have hB2 : Below w.heap.size w w2 := hB0.trans (hb2.mono (by omega))
  have he2 : errNodeAt a w2 := (hB2.cell (p := ⟨0, 0, none⟩) hgl).trans he
  have hz2 := hb2.size
  clear hT0 hB0 hh1 he1 hb2
  have HTo := Lib.hid (told_err a w2 he2)
  have HE := Lib.hid he
  have hfield := field_kids
  cases hr : rightN t with
  | false =>
    have HKN : Hid (kidN t n = none) := Lib.hid (by unfold kidN; rw [if_neg (by rw [hr]; simp)])
    clear hr
    go_wp2_with fail
    refine HTo.out.mono ?_
    rintro e w3 ⟨rfl, rfl⟩
    go_wp2_with fail
    refine ⟨_, results_tmp2 rfl _ _ _, ?_⟩
    exact ⟨by rw [HKN.out]; rfl, hB2⟩
  | true =>
    obtain ⟨r1, r2, hok, _⟩ := rightN_parts hr
    have hlast : t.length - 1 < t.length := by omega
    have gl := List.getElem?_eq_getElem hlast
    have HRK : Hid (rootKids t = (t[t.length - 1]).kids) := Lib.hid (by unfold rootKids; rw [nodeAt_some gl])
    have hkl := (hi _ (List.getElem_mem hlast)).2.1
    have hkd := fun k hk => nodes_kid hok hlast (k := k) hk
    rw [nodeAt_some gl] at hkd
    generalize t[t.length - 1] = x at *
    have HRO := Lib.hid (fun W hT hH => root_any t A c w.heap.size x W hT hH gl r1 (by omega))
    have HTR := Lib.hid hr
    unfold Nd.value at HRO
    by_cases hn0 : n < 0
    · have HKN : Hid (kidN t n = none) := Lib.hid (by unfold kidN; rw [if_neg (by omega)])
      clear hr
      go_wp2_with fail
      refine HTo.out.mono ?_
      rintro e w3 ⟨rfl, rfl⟩
      go_wp2_with fail
      refine ⟨_, results_tmp2 rfl _ _ _, ?_⟩
      exact ⟨by rw [HKN.out]; rfl, hB2⟩
    by_cases hn1 : (x.kids.length : Int) ≤ n
    · have HKN : Hid (kidN t n = none) := Lib.hid (by unfold kidN; rw [if_neg (by rw [HRK.out]; omega)])
      have HX := Lib.hid (HRO.out w2 hT2 hh2)
      clear hr
      go_wp2_with fail
      refine HX.out.mono ?_
      rintro e w3 ⟨B3, c3, rfl, hK3, hb3⟩
      have hB3 : Below w.heap.size w w3 := hB2.trans (hb3.mono (by omega))
      have he3 : errNodeAt a w3 := (hB3.cell (p := ⟨0, 0, none⟩) hgl).trans HE.out
      have HTo3 := Lib.hid (told_err a w3 he3)
      go_wp2_with fail
      refine HTo3.out.mono ?_
      rintro e w4 ⟨rfl, rfl⟩
      go_wp2_with fail
      refine ⟨_, results_tmp2 rfl _ _ _, ?_⟩
      exact ⟨by rw [HKN.out]; rfl, hB3⟩
    obtain ⟨m, rfl⟩ : ∃ m : Nat, n = (m : Int) := ⟨n.toNat, by omega⟩
    have hml : m < x.kids.length := by omega
    have gm := List.getElem?_eq_getElem hml
    obtain ⟨hk0, hk9⟩ := hkd _ (List.getElem_mem hml)
    have HKO : Hid (kidN t (m : Int) = if rightN (movedN (-(firstAt t (x.kids[m]).toNat : Int)) (subOf t (x.kids[m]).toNat)) then some (movedN (-(firstAt t (x.kids[m]).toNat : Int)) (subOf t (x.kids[m]).toNat)) else none) := Lib.hid (by
      have e1 : kidOf t m = movedN (-(firstAt t (x.kids[m]).toNat : Int)) (subOf t (x.kids[m]).toNat) := by
        rw [kidOf_eq, HRK.out, List.getD_eq_getElem?_getD, gm]
        rfl
      unfold kidN
      rw [if_pos ⟨HTR.out, by omega, by rw [HRK.out]; omega⟩, Int.toNat_natCast, e1])
    obtain ⟨at_, hat⟩ : ∃ at_ : Nat, x.kids[m] = (at_ : Int) := ⟨(x.kids[m]).toNat, by omega⟩
    rw [hat] at HKO gm hk9
    rw [Int.toNat_natCast] at HKO
    have hal : at_ < t.length := by omega
    have HX := Lib.hid (HRO.out w2 hT2 hh2)
    have HFO := Lib.hid (fold_first hok hal)
    have hfl := firstAt_le hok hal
    have HOK := Lib.hid hok
    have hmi : (m : Int) < (x.kids.length : Int) := by omega
    clear hr hn0 hn1 hkd hat hok
    go_wp2_with fail
    refine HX.out.mono ?_
    rintro e w3 ⟨B3, c3, rfl, hK3, hb3⟩
    have hB3 : Below w.heap.size w w3 := hB2.trans (hb3.mono (by omega))
    have hT3 := hT2.below hb3
    have hh3 := hh2.below hb3
    have HX3 := Lib.hid (HRO.out w3 hT3 hh3)
    go_wp2_with fail
    refine HX3.out.mono ?_
    rintro e w4 ⟨B4, c4, rfl, hK4, hb4⟩
    have hz3 := hb3.size
    have hz4 := hb4.size
    have hB4 : Below w.heap.size w w4 := hB3.trans (hb4.mono (by omega))
    have hT4 := hT3.below hb4
    have hh4 := hh3.below hb4
    obtain ⟨b4, off4, rfl, f3⟩ := hK4 m _ gm
    have f4 := (hb4.cell (p := ⟨b4, _, none⟩) (cell_lt f3)).trans f3
    clear f3
    have HBL := Lib.hid (fun W => below_any w.heap.size at_ W)
    clear hK3 hb3 hb4 hT2 hT3 hh2 hh3 HX HX3 HRO gm gl
    go_wp2_with fail
    refine (HBL.out _).mono ?_
    rintro e w5 ⟨rfl, rfl⟩
    go_wp2_with fail
    have hbV : Below w4.heap.size w4 (((w4.alloc (.cells #[.int .i64 (at_ : Int)] 3)).alloc (.cells #[.pointer (some ⟨w.heap.size, 0, none⟩)] 61)).alloc (.cells #[.int .i64 (at_ : Int)] 3)) := (((Below.refl w4.heap.size w4).alloc (Nat.le_refl _) _).alloc (by simp) _).alloc (by simp; omega) _
    have hzV : (((w4.alloc (.cells #[.int .i64 (at_ : Int)] 3)).alloc (.cells #[.pointer (some ⟨w.heap.size, 0, none⟩)] 61)).alloc (.cells #[.int .i64 (at_ : Int)] 3)).heap.size = w4.heap.size + 3 := by simp
    have hFV : (((w4.alloc (.cells #[.int .i64 (at_ : Int)] 3)).alloc (.cells #[.pointer (some ⟨w.heap.size, 0, none⟩)] 61)).alloc (.cells #[.int .i64 (at_ : Int)] 3)).heap[w4.heap.size]? = some (.cells #[.int .i64 (at_ : Int)] 3 (0, 0)) :=
      ((((Below.refl (w4.heap.size + 1) (w4.alloc (.cells #[.int .i64 (at_ : Int)] 3))).alloc (by simp) _).alloc (by simp) _).block w4.heap.size (by omega)).trans (heap_alloc_new _ _)
    have htV : (((w4.alloc (.cells #[.int .i64 (at_ : Int)] 3)).alloc (.cells #[.pointer (some ⟨w.heap.size, 0, none⟩)] 61)).alloc (.cells #[.int .i64 (at_ : Int)] 3)).heap[w4.heap.size + 1]? = some (.cells #[.pointer (some ⟨w.heap.size, 0, none⟩)] 61 (0, 0)) := by
      have h := heap_alloc_new (w4.alloc (.cells #[.int .i64 (at_ : Int)] 3)) (.cells #[.pointer (some ⟨w.heap.size, 0, none⟩)] 61)
      rw [World.size_alloc] at h
      exact ((((Below.refl (w4.heap.size + 2) ((w4.alloc (.cells #[.int .i64 (at_ : Int)] 3)).alloc (.cells #[.pointer (some ⟨w.heap.size, 0, none⟩)] 61)))).alloc (by simp) _).block _ (by omega)).trans h
    have haV : (((w4.alloc (.cells #[.int .i64 (at_ : Int)] 3)).alloc (.cells #[.pointer (some ⟨w.heap.size, 0, none⟩)] 61)).alloc (.cells #[.int .i64 (at_ : Int)] 3)).heap[w4.heap.size + 2]? = some (.cells #[.int .i64 (at_ : Int)] 3 (0, 0)) := by
      have h := heap_alloc_new ((w4.alloc (.cells #[.int .i64 (at_ : Int)] 3)).alloc (.cells #[.pointer (some ⟨w.heap.size, 0, none⟩)] 61)) (.cells #[.int .i64 (at_ : Int)] 3)
      rw [World.size_alloc, World.size_alloc] at h
      exact h
    generalize ((w4.alloc (.cells #[.int .i64 (at_ : Int)] 3)).alloc (.cells #[.pointer (some ⟨w.heap.size, 0, none⟩)] 61)).alloc (.cells #[.int .i64 (at_ : Int)] 3) = V at *
    refine wpIn_wide.1 (range_joint (n := 3) (F := Fence.wide) rfl (by omega) (gf := 60) (lb := #[.pointer (some ⟨w4.heap.size + 1, 0, none⟩), .pointer (some ⟨w4.heap.size + 1 + 1, 0, none⟩)]) rfl trivial (enters_of Tryz.func60 (by kernel_rfl) rfl) ?_)
    intro fn r W hfn hr hW hBk
    have hVW : Below V.heap.size V W := by rw [hW]; exact ((Below.refl _ V).alloc (Nat.le_refl _) _).alloc (by simp) _
    have hzW : W.heap.size = V.heap.size + 2 := by rw [hW]; simp
    have hF0 : FrameK w4 w.heap.size (V.heap.size + 1) V.heap.size at_ r [] W :=
      ⟨hbV.trans (hVW.mono (by omega)), (hVW.block _ (by omega)).trans hFV, (hVW.block _ (by omega)).trans htV, (hVW.block _ (by omega)).trans haV, hBk⟩
    refine callsIn_wide.2 ((below1_any t HOK.out hi (by omega) A c w.heap.size w4 hT4 hh4 (at_ + 1) at_ (by omega) hal (V.heap.size + 1) (w4.heap.size + 1) (w4.heap.size + 1 + 1) (fun ps Wx => FrameK w4 w.heap.size (V.heap.size + 1) V.heap.size at_ r ps Wx ∧ W.heap.size ≤ Wx.heap.size) [] W ?hBears ?hRounds ?hBoxes ⟨hF0, Nat.le_refl _⟩).mono ?_)
    case hBears => exact ⟨fun p Wx h => h.1.low, fun p Wx Wy h hb => ⟨h.1.below hb (by omega) (by omega) (by omega), Nat.le_trans h.2 hb.size⟩, fun p Wx h => h.2⟩
    case hBoxes =>
      intro p Wx h
      exact ⟨by simp [World.cell?, h.1.tb], by simp [World.cell?, h.1.ab]⟩
    case hRounds =>
      intro n5 ps x' W5 h5
      obtain ⟨hF5, hz5⟩ := h5
      have h1 : r.state = .ready := by rw [hr]
      have h2 : r.pending = none := by rw [hr]
      have h3 : r.params.size = 1 := by rw [hr]; rfl
      obtain ⟨W6, hW6⟩ : ∃ W6, W5.putObj (V.heap.size + 1) (.loop { r with state := .busy }) = W6 := ⟨_, rfl⟩
      have hz6 : W6.heap.size = W5.heap.size := by rw [← hW6]; simp [World.putObj]
      have ho6 : ∀ j, j ≠ V.heap.size + 1 → W6.heap[j]? = W5.heap[j]? := fun j hj => by rw [← hW6]; exact World.putObj_heap_other hj
      have hbx6 : W6.heap[w4.heap.size]? = some (.cells #[.int .i64 ((ps.foldl min at_ : Nat) : Int)] 3 (0, 0)) := (ho6 _ (by omega)).trans hF5.box
      have hb6 : Below w4.heap.size W5 W6 := by rw [← hW6]; exact below_put (by omega)
      have hsn : (ps ++ [x']).foldl min at_ = min (ps.foldl min at_) x' := by rw [List.foldl_append]; rfl
      refine (round_joint (F := Fence.wide) (n := n5) (args := #[.int .i64 (x' : Int)]) (Post := fun W3 => W3.heap[w4.heap.size]? = some (.cells #[.int .i64 (((ps ++ [x']).foldl min at_ : Nat) : Int)] 3 (0, 0)) ∧ KeepsOthers W6 W3 ∧ (∀ j, j ≠ w4.heap.size → W3.heap[j]? = W6.heap[j]?) ∧ W3.heap.size = W6.heap.size ∧ Below w4.heap.size W6 W3) trivial hF5.books h1 h2 (by rw [h3]; rfl) ?_).mono ?_
      · rw [hsn]
        generalize ps.foldl min at_ = d at *
        have HW6 := Lib.hid hW6
        have cbx : W6.cell? ⟨w4.heap.size, 0, none⟩ = some (.int .i64 (d : Int)) := by simp [World.cell?, hbx6]
        have zbx : W6.frozen? ⟨w4.heap.size, 0, none⟩ = false := frozen_of_row W6 _ 0 _ _ hbx6
        have HMN : Hid (min (d : Int) (x' : Int) = ((min d x' : Nat) : Int)) := Lib.hid (by omega)
        have HP : Hid ((W6.setCell ⟨w4.heap.size, 0, none⟩ (.int .i64 ((min d x' : Nat) : Int))).heap[w4.heap.size]? = some (.cells #[.int .i64 ((min d x' : Nat) : Int)] 3 (0, 0)) ∧ KeepsOthers W6 (W6.setCell ⟨w4.heap.size, 0, none⟩ (.int .i64 ((min d x' : Nat) : Int))) ∧ (∀ j, j ≠ w4.heap.size → (W6.setCell ⟨w4.heap.size, 0, none⟩ (.int .i64 ((min d x' : Nat) : Int))).heap[j]? = W6.heap[j]?) ∧ (W6.setCell ⟨w4.heap.size, 0, none⟩ (.int .i64 ((min d x' : Nat) : Int))).heap.size = W6.heap.size ∧ Below w4.heap.size W6 (W6.setCell ⟨w4.heap.size, 0, none⟩ (.int .i64 ((min d x' : Nat) : Int)))) := Lib.hid (by
          refine ⟨?_, KeepsOthers.setCell _ _ _, fun j hj => Below.heap_setCell W6 ⟨w4.heap.size, 0, none⟩ _ j hj, by simp, (Below.refl _ _).setCell (p := ⟨w4.heap.size, 0, none⟩) (Nat.le_refl _) _⟩
          rw [heap_setCell_same W6 _ 0 _ _ _ hbx6]
          simp)
        clear hW6 h1 h2 h3 hF5 hF0 hbx6 ho6 hz6 hb6 hBk hVW hzW hW hFV htV haV hbV
        subst hr
        gi_wp2_with fail
        refine ⟨KeepsOthers.refl _, ?_⟩
        rw [HW6.out]
        gi_wp2_with fail
        rw [HMN.out]
        exact ⟨HP.out.2.1, HP.out.1, HP.out.2.1, HP.out.2.2.1, HP.out.2.2.2.2⟩
      · rintro e W' ⟨rfl, hB', W3, hB3, rfl, hbx3, hk3, ha3, hz3, hb3⟩
        have hput : Below w4.heap.size W3 (W3.putObj (V.heap.size + 1) (.loop r)) := below_put (by omega)
        have hsame : ∀ j, j ≠ w4.heap.size → (W3.putObj (V.heap.size + 1) (.loop r)).heap[j]? = W5.heap[j]? := fun j hj1 => by
          by_cases hjl : j = V.heap.size + 1
          · subst hjl
            rw [World.putObj_heap_same (heap_lt hB3.lp), hF5.books.lp]
          · exact (World.putObj_heap_other hjl).trans ((ha3 j hj1).trans (ho6 j hjl))
        have hzP : (W3.putObj (V.heap.size + 1) (.loop r)).heap.size = W5.heap.size := by rw [← hz6, ← hz3]; simp [World.putObj]
        have hko : KeepsOthers W5 (W3.putObj (V.heap.size + 1) (.loop r)) := ⟨by omega, fun kk o hkk ho => by
          by_cases hjf : kk = w4.heap.size
          · subst hjf
            rw [hF5.box] at hkk
            cases hkk
            cases ho
          · exact (hsame kk hjf).trans hkk⟩
        refine ⟨rfl, ⟨⟨((hF5.low.trans hb6).trans hb3).trans hput, (World.putObj_heap_other (show w4.heap.size ≠ V.heap.size + 1 by omega)).trans hbx3, (hsame _ (by omega)).trans hF5.tb, (hsame _ (by omega)).trans hF5.ab, ⟨(hsame _ (by omega)).trans hF5.books.lp, (hsame _ (by omega)).trans hF5.books.calls, hF5.books.ne⟩⟩, by omega⟩, hko, by omega, fun j hj1 hj2 => hsame j (by omega)⟩
    · rintro e W' ⟨hv, ⟨hF', hz'⟩, hk'⟩
      refine ⟨hv, hF'.books, ?_⟩
      have hput : Below w4.heap.size W' (W'.putObj (V.heap.size + 1) (.loop { r with state := .exhausted })) := below_put (by omega)
      have hoP : ∀ j, j ≠ V.heap.size + 1 → (W'.putObj (V.heap.size + 1) (.loop { r with state := .exhausted })).heap[j]? = W'.heap[j]? := fun j hj => World.putObj_heap_other hj
      have hzP : (W'.putObj (V.heap.size + 1) (.loop { r with state := .exhausted })).heap.size = W'.heap.size := by simp [World.putObj]
      have hbxP := (hoP w4.heap.size (by omega)).trans hF'.box
      have hDP := (hoP V.heap.size (by omega)).trans hF'.books.calls
      have hlP := hF'.low.trans hput
      rw [List.nil_append, HFO.out] at hbxP
      generalize W'.putObj (V.heap.size + 1) (.loop { r with state := .exhausted }) = W8 at *
      have hB8 : Below w.heap.size w W8 := hB4.trans (hlP.mono (by omega))
      clear hput hoP hF' hk' hv hF0 hBk hVW hW hr hFV htV haV hbV
      have cbx : W8.cell? ⟨w4.heap.size, 0, none⟩ = some (.int .i64 (firstAt t at_ : Int)) := by simp [World.cell?, hbxP]
      have hz8 : V.heap.size + 2 ≤ W8.heap.size := by omega
      clear hzP
      obtain ⟨b, off, rfl, _⟩ := hh 0 _ (List.getElem?_eq_getElem (show 0 < t.length by omega))
      have hsl : (subOf t at_).length = at_ + 1 - firstAt t at_ := by unfold subOf; rw [List.length_take, List.length_drop]; omega
      have hsub : HoldsN w (some ⟨b, off + firstAt t at_ * 3, none⟩) (subOf t at_) := fun k y hy => by
        have hk : k < at_ + 1 - firstAt t at_ := by rw [← hsl]; exact (List.getElem?_eq_some_iff.1 hy).1
        unfold subOf at hy
        rw [List.getElem?_take, if_pos hk, List.getElem?_drop] at hy
        obtain ⟨b', off', e, h⟩ := hh _ _ hy
        cases e
        rw [show off + (firstAt t at_ + k) * 3 = off + firstAt t at_ * 3 + k * 3 by omega] at h
        exact ⟨b, _, rfl, h⟩
      have hsmem : ∀ y ∈ subOf t at_, y ∈ t := fun y hy => by
        unfold subOf at hy
        exact List.mem_of_mem_drop (List.mem_of_mem_take hy)
      have hskid : ∀ y ∈ subOf t at_, ∀ k ∈ y.kids, -1000000 ≤ k ∧ k ≤ 1000000 := fun y hy k hk => by
        have := kids_small HTR.out y (hsmem y hy) k hk
        omega
      have hMV := Lib.hid (movedW_eq (by_ := -(firstAt t at_ : Int)) (by omega) (by omega) hskid)
      have hIM := Lib.hid ((hi.sub hsmem).movedS (by_ := -(firstAt t at_ : Int)) hskid (by omega) (by omega))
      have hT9 : (W8.alloc (.cells #[.slice none 0 0] 63)).drew.heap[W8.heap.size]? = some (.cells (Value.slice none 0 0 :: []).toArray 63 (0, 0)) := heap_alloc_new _ _
      have hB9 : Below w.heap.size w (W8.alloc (.cells #[.slice none 0 0] 63)).drew := (hB8.alloc hB8.size _).drew
      have hD9 : (W8.alloc (.cells #[.slice none 0 0] 63)).drew.heap[V.heap.size]? = some (.deferred (some [])) := (Lib.alloc_old W8 _ V.heap.size (by omega)).trans hDP
      have hzw : w.heap.size ≤ W8.heap.size := hB8.size
      have HX := Lib.hid (add_any (subOf t at_) (-(firstAt t at_ : Int)) (some ⟨b, off + firstAt t at_ * 3, none⟩) (at_ + 1 - firstAt t at_) W8.heap.size W8.heap.size 63 [] (.slice none 0 0) [] _ (Nat.le_refl _) hT9 (by decide) (by decide) (HasN.nil _ _) (by rw [hsl]; simp; omega) (fun W' hW' => hsub.below (hB9.trans (hW'.mono hzw))) (hi.sub hsmem) (by omega) (by omega))
      rw [hsl] at HX
      have HD9 := Lib.hid hD9
      have HB9 := Lib.hid hB9
      clear hsub hsmem hskid hT9 hB9 hD9 hDP
      generalize firstAt t at_ = fr at *
      have hs1 : (0 : Int) ≤ (fr : Int) := by omega
      have hs2 : (fr : Int) ≤ (at_ : Int) + 1 := by omega
      have hs3 : (at_ : Int) + 1 ≤ (c : Int) := by omega
      have hs4 : IntKind.i64.wrap ((at_ : Int) + 1) = (at_ : Int) + 1 := IntWalk.i64_in _ (by omega)
      have hs5 : IntKind.i64.wrap (-(fr : Int)) = -(fr : Int) := IntWalk.i64_in _ (by omega)
      have hs6 : ((at_ : Int) + 1).toNat = at_ + 1 := by omega
      have hs7 : ¬ at_ + 1 = fr := by omega
      have cbx9 : (W8.alloc (.cells #[.slice none 0 0] 63)).cell? ⟨w4.heap.size, 0, none⟩ = some (.int .i64 (fr : Int)) := (World.cell?_alloc_lt _ _ _ (show w4.heap.size < W8.heap.size by omega)).trans cbx
      go_wp2_with fail
      go_region_with (go_at_call 37; refine HX.out.mono ?_; rintro e w10 ⟨rfl, v', L', hT', hN', hM', hF', hb', hI'⟩)
      all_goals (rw [hMV.out] at hM')
      all_goals (rw [List.nil_append] at hN')
      all_goals (obtain ⟨A6, c6, rfl, h6, _⟩ := hN'.holds)
      all_goals (rw [hM'] at h6)
      all_goals (have hlm : (movedN (-(fr : Int)) (subOf t at_)).length = L'.length := by rw [← hM', List.length_map])
      all_goals (have HRt := Lib.hid (right_any _ A6 c6 w10 h6 hIM.out))
      all_goals (rw [hlm] at HRt)
      all_goals (have y0 : w10.cell? ⟨W8.heap.size, 0, none⟩ = some (.slice A6 L'.length c6) := by rw [cell_of_row0 hT']; rfl)
      all_goals (have hD10 := (hb'.block V.heap.size (by omega)).trans HD9.out)
      all_goals (have hB10 := HB9.out.trans (hb'.mono hzw))
      all_goals (have HN10 := Lib.hid (hN'.mono hzw))
      all_goals (have HM10 := Lib.hid hM')
      all_goals (clear hN' h6 hlm hT' hF' hb' hI' hM' HX)
      all_goals go_wp2_with fail
      all_goals (refine HRt.out.mono ?_)
      all_goals (rintro e w11 ⟨rfl, hb11⟩)
      all_goals (have hD11 := (hb11.block V.heap.size (heap_lt hD10)).trans hD10)
      all_goals (have y1 := (hb11.cell (p := ⟨W8.heap.size, 0, none⟩) (cell_lt y0)).trans y0)
      all_goals (have hB11 : Below w.heap.size w w11 := hB10.trans (hb11.mono hB10.size))
      all_goals (have HN11 := Lib.hid (HN10.out.below hb11))
      all_goals (have HTo11 := Lib.hid (told_err a w11 ((hB11.cell (p := ⟨0, 0, none⟩) hgl).trans HE.out)))
      all_goals (have he11 : errNodeAt a w11 := (hB11.cell (p := ⟨0, 0, none⟩) hgl).trans HE.out)
      all_goals (rw [hzV] at hD11)
      all_goals (have hzb : w.heap.size ≤ w4.heap.size + 3 := by omega)
      all_goals (cases hro : rightN (movedN (-(fr : Int)) (subOf t at_)) with
        | false =>
          have HKN : Hid (kidN t (m : Int) = none) := Lib.hid (by rw [HKO.out, hro]; rfl)
          clear hro
          go_wp2_with fail
          refine HTo11.out.mono ?_
          rintro e w12 ⟨rfl, rfl⟩
          go_wp2_with fail
          refine ⟨by simp, .inl ⟨_, _, rfl, run_takeDeferred hD11, ?_⟩⟩
          refine ⟨_, results_tmp2 rfl _ _ _, ?_⟩
          exact ⟨by rw [HKN.out]; rfl, hB11.trans (below_put hzb)⟩
        | true =>
          have HKN : Hid (kidN t (m : Int) = some (movedN (-(fr : Int)) (subOf t at_))) := Lib.hid (by rw [HKO.out, hro]; rfl)
          clear hro
          go_wp2_with fail
          refine ⟨by simp, .inl ⟨_, _, rfl, run_takeDeferred hD11, ?_⟩⟩
          refine ⟨_, results_tmp2 rfl _ _ _, ?_⟩
          exact ⟨by rw [HKN.out]; exact ⟨_, _, rfl, HN11.out.put _ hD11 rfl, HM10.out⟩, hB11.trans (below_put hzb)⟩)
end Go.Proofs.YtebejlnegalokaaGreatDoor.Nz
/-
  XNdSh, turned: what this seat needs of it.
-/
namespace Go.Proofs.YtebejlnegalokaaGreatDoor.Nz
open Go.RowKit
/-- What a slice of nodes of one's own has, in the form of a slice. -/
theorem HasN.opened {w : World} {base : Nat} {v : Value} {L : List (Nd × Value)} {t : List Nd} {n : Nat} (h : HasN w base v L) (hm : L.map Prod.fst = t) (hn : t.length = n) : ∃ A c, v = .slice A n c ∧ HoldsN w A t ∧ n ≤ c := by
  obtain ⟨A, c, rfl, h1, h2⟩ := h.holds
  have hl : L.length = n := by rw [← hn, ← hm, List.length_map]
  rw [hm] at h1
  exact ⟨A, c, by rw [hl], h1, by omega⟩
end Go.Proofs.YtebejlnegalokaaGreatDoor.Nz
/-
  XNdArg, turned: what this seat needs of it.
-/
namespace Go.Proofs.YtebejlnegalokaaGreatDoor.Nz
open Go.RowKit Go.WideShapes Go.ChangeShapes Go.Deep
theorem e_ints : Tryz.prog.underlying 47 = some (.slice 3) := by kernel_rfl
theorem e_nodes : Tryz.prog.underlying 23 = some (.slice 49) := by kernel_rfl
theorem e_trees : Tryz.prog.underlying 115 = some (.slice 23) := by kernel_rfl
theorem e_cnode : Tryz.prog.cellsOf 49 = 3 := by kernel_rfl
theorem e_cnodes : Tryz.prog.cellsOf 23 = 1 := by kernel_rfl
theorem e_cints : Tryz.prog.cellsOf 47 = 1 := by kernel_rfl
theorem e_int : Tryz.prog.underlying 3 = some (.int .i64) := by kernel_rfl
theorem e_string : Tryz.prog.underlying 9 = some .string := by kernel_rfl
theorem e_cint : Tryz.prog.cellsOf 3 = 1 := by kernel_rfl
theorem e_cstring : Tryz.prog.cellsOf 9 = 1 := by kernel_rfl
theorem e_struct : ∃ fs : Array Field, Tryz.prog.underlying 49 = some (.struct fs) ∧ fs.map (fun f => (f.type, f.offset)) = #[(3, 0), (9, 1), (47, 2)] :=
  ⟨_, Tryz.underlying49, by simp⟩
theorem field_of {fs : Array Field} {l : Array (TypeId × Nat)} (h : fs.map (fun f => (f.type, f.offset)) = l) (j : Nat) (x : TypeId × Nat) (hx : l[j]? = some x) : ∃ f : Field, fs[j]? = some f ∧ f.type = x.1 ∧ f.offset = x.2 := by
  subst h
  rw [Array.getElem?_map] at hx
  cases hf : fs[j]? with
  | none => rw [hf] at hx; cases hx
  | some f =>
    rw [hf] at hx
    cases Option.some.inj hx
    exact ⟨f, rfl, rfl, rfl⟩
theorem cell_spot {w : World} {a : Addr} {v : Value} (h : w.cell? a = some v) : a.spot = none := by
  cases hsp : a.spot with
  | none => rfl
  | some z =>
    exfalso
    simp [World.cell?, hsp] at h
    split at h <;> simp at h
theorem add_off (b o j : Nat) : (⟨b, o, none⟩ : Addr).add j = ⟨b, o + j, none⟩ := by
  unfold Addr.add
  split
  · rename_i h; subst h; rfl
  · rfl
theorem choose_list {α : Type} (n : Nat) (p : Nat → α → Prop) (h : ∀ i, i < n → ∃ x, p i x) : ∃ l : List α, l.length = n ∧ ∀ (k : Nat) (x : α), l[k]? = some x → p k x := by
  induction n with
  | zero => exact ⟨[], rfl, fun k x hk => by simp at hk⟩
  | succ n ih =>
    obtain ⟨l, hl, hp⟩ := ih fun i hi => h i (by omega)
    obtain ⟨x, hx⟩ := h n (by omega)
    refine ⟨l ++ [x], by simp [hl], fun k y hk => ?_⟩
    rcases Nat.lt_or_ge k l.length with h1 | h1
    · rw [List.getElem?_append_left h1] at hk
      exact hp k y hk
    · rw [List.getElem?_append_right h1] at hk
      have : k - l.length = 0 := by
        have := (List.getElem?_eq_some_iff.1 hk).1
        simp at this
        omega
      rw [this] at hk
      simp at hk
      subst hk
      have : k = n := by omega
      subst this
      exact hx
section
variable {H : Type} {enc : TypeId × Value → H} {w : World} {base : Nat} {sp : Nat → Bool} {held : Bool}

/-- A slice's elements, each from its cells. -/
theorem open_row {t e : TypeId} {fuel s : Nat} {cs : List Value} {x : DataW H × List MemPlace} (ht : Tryz.prog.underlying t = some (.slice e)) (hs : Tryz.prog.cellsOf e = s) (h0 : 0 < s) (h : DataW.trod enc Tryz.prog w base sp held fuel t cs = some x) :
    ∃ (A : Option Addr) (n c : Nat), cs = [.slice A n c] ∧ n ≤ c ∧ c ≤ maxLen ∧ (0 < n → ∃ b off, A = some ⟨b, off, none⟩ ∧ ∀ i, i < n → ∃ fuel' cs' y, cs'.length = s ∧ (∀ j, j < s → w.cell? ⟨b, off + i * s + j, none⟩ = cs'[j]?) ∧ DataW.trod enc Tryz.prog w base sp held fuel' e cs' = some y) := by
  rcases open_slice ht h with ⟨hc, _⟩ | ⟨a, len, cap, m, n, D, Pl, hc, _, hl, hm, hmm, _, hall⟩
  · exact ⟨none, 0, 0, hc, Nat.le_refl _, by unfold maxLen; omega, fun h => by omega⟩
  · refine ⟨some a, len, cap, hc, hl, hm, fun hn => ?_⟩
    have hlm : len ≤ m := by rw [hmm]; split <;> omega
    rw [hs] at hall
    have hspot : a.spot = none := by
      obtain ⟨cs', h1, _⟩ := hall 0 (by omega)
      obtain ⟨_, hlen, h2⟩ := World.cells?_some h1
      have h3 := h2 0 h0
      rw [List.getElem?_eq_getElem (by omega), Nat.zero_mul] at h3
      exact cell_spot h3
    obtain ⟨b, off, spot⟩ := a
    simp only at hspot
    subst hspot
    refine ⟨b, off, rfl, fun i hi => ?_⟩
    obtain ⟨cs', h1, h2⟩ := hall i (by omega)
    obtain ⟨_, hlen, h3⟩ := World.cells?_some h1
    refine ⟨n, cs', _, hlen, fun j hj => ?_, h2⟩
    rw [← h3 j hj, add_off, add_off]

/-- Numbers. -/
theorem open_ints {fuel : Nat} {cs : List Value} {x : DataW H × List MemPlace} (h : DataW.trod enc Tryz.prog w base sp held fuel 47 cs = some x) :
    ∃ (A : Option Addr) (l : List Int) (c : Nat), cs = [.slice A l.length c] ∧ l.length ≤ c ∧ c ≤ maxLen ∧ (∀ k ∈ l, (Lit.int .i64 k).wf = true) ∧ HoldsI w A l := by
  obtain ⟨A, n, c, rfl, h1, h2, h3⟩ := open_row e_ints e_cint (by omega) h
  rcases Nat.eq_zero_or_pos n with rfl | hn
  · exact ⟨A, [], c, rfl, h1, h2, fun k hk => by simp at hk, HoldsI.nil _ _⟩
  · obtain ⟨b, off, rfl, hall⟩ := h3 hn
    obtain ⟨l, hl, hp⟩ := choose_list n (fun i (k : Int) => w.cell? ⟨b, off + i, none⟩ = some (.int .i64 k) ∧ (Lit.int .i64 k).wf = true) (fun i hi => by
      obtain ⟨f', cs', y, q1, q2, q3⟩ := hall i hi
      obtain ⟨k, rfl, _, hk⟩ := DataW.trod_int e_int q3
      have := q2 0 (by omega)
      exact ⟨k, by simpa using this, hk⟩)
    refine ⟨_, l, c, by rw [hl], by omega, h2, fun k hk => ?_, fun i k hk => ⟨b, off, rfl, (hp i k hk).1⟩⟩
    obtain ⟨i, hi⟩ := List.getElem?_of_mem hk
    exact (hp i k hi).2
/-- A node that a given one may be. -/
def MayNd (x : Nd) : Prop := (Lit.int .i64 x.kind).wf = true ∧ x.text.size ≤ maxLen ∧ x.kids.length ≤ maxLen ∧ ∀ k ∈ x.kids, (Lit.int .i64 k).wf = true
set_option maxRecDepth 100000 in
/-- One node. -/
theorem open_node {fuel : Nat} {cs : List Value} {x : DataW H × List MemPlace} (h : DataW.trod enc Tryz.prog w base sp held fuel 49 cs = some x) :
    ∃ (y : Nd) (B : Option Addr) (c : Nat), cs = [.int .i64 y.kind, .string y.text, .slice B y.kids.length c] ∧ HoldsI w B y.kids ∧ y.kids.length ≤ c ∧ MayNd y := by
  obtain ⟨fs, hs, hm⟩ := e_struct
  obtain ⟨xs, n, _, _, hlen, _, hf⟩ := DataW.trod_struct hs h
  obtain ⟨f0, g0, t0, o0⟩ := field_of hm 0 (3, 0) rfl
  obtain ⟨f1, g1, t1, o1⟩ := field_of hm 1 (9, 1) rfl
  obtain ⟨f2, g2, t2, o2⟩ := field_of hm 2 (47, 2) rfl
  simp only at t0 o0 t1 o1 t2 o2
  have h0 := hf 0 f0 g0
  have h1 := hf 1 f1 g1
  have h2 := hf 2 f2 g2
  have hx : xs.length = 3 := by
    have : fs.size = 3 := by have := congrArg Array.size hm; simpa using this
    omega
  rw [e_cnode] at hlen
  match xs, hx, cs, hlen with
  | [y0, y1, y2], _, [v0, v1, v2], _ =>
    rw [t0, o0, e_cint] at h0
    rw [t1, o1, e_cstring] at h1
    rw [t2, o2, e_cints] at h2
    obtain ⟨n0, c0, _, hn0⟩ := DataW.trod_int e_int (h0.trans rfl : _ = some y0)
    obtain ⟨s1, c1, _, hy⟩ := DataW.trod_string e_string (h1.trans rfl : _ = some y1)
    obtain ⟨B, l, c, c2, q1, q2, q3, q4⟩ := open_ints (h2.trans rfl : _ = some y2)
    obtain rfl : v0 = .int .i64 n0 := (List.cons.inj c0).1
    obtain rfl : v1 = .string s1 := (List.cons.inj c1).1
    obtain rfl : v2 = .slice B l.length c := (List.cons.inj c2).1
    exact ⟨⟨n0, s1, l⟩, B, c, rfl, q4, q1, hn0, hy, Nat.le_trans q1 q2, q3⟩
/-- Nodes. -/
theorem open_nodes {fuel : Nat} {cs : List Value} {x : DataW H × List MemPlace} (h : DataW.trod enc Tryz.prog w base sp held fuel 23 cs = some x) :
    ∃ (A : Option Addr) (l : List Nd) (c : Nat), cs = [.slice A l.length c] ∧ l.length ≤ c ∧ c ≤ maxLen ∧ (∀ k ∈ l, MayNd k) ∧ HoldsN w A l := by
  obtain ⟨A, n, c, rfl, h1, h2, h3⟩ := open_row e_nodes e_cnode (by omega) h
  rcases Nat.eq_zero_or_pos n with rfl | hn
  · exact ⟨A, [], c, rfl, h1, h2, fun k hk => by simp at hk, HoldsN.nil _ _⟩
  · obtain ⟨b, off, rfl, hall⟩ := h3 hn
    obtain ⟨l, hl, hp⟩ := choose_list n (fun i (y : Nd) => NodeLies w b (off + i * 3) y ∧ MayNd y) (fun i hi => by
      obtain ⟨f', cs', y, q1, q2, q3⟩ := hall i hi
      obtain ⟨k, B, c', rfl, r1, r2, r3⟩ := open_node q3
      have s0 := q2 0 (by omega)
      have s1 := q2 1 (by omega)
      have s2 := q2 2 (by omega)
      exact ⟨k, ⟨s0, s1, B, c', s2, r1, r2⟩, r3⟩)
    refine ⟨_, l, c, by rw [hl], by omega, h2, fun k hk => ?_, fun i k hk => ⟨b, off, rfl, (hp i k hk).1⟩⟩
    obtain ⟨i, hi⟩ := List.getElem?_of_mem hk
    exact (hp i k hi).2
/-- Trees. -/
theorem open_trees {fuel : Nat} {cs : List Value} {x : DataW H × List MemPlace} (h : DataW.trod enc Tryz.prog w base sp held fuel 115 cs = some x) :
    ∃ (A : Option Addr) (l : List (List Nd)) (c : Nat), cs = [.slice A l.length c] ∧ l.length ≤ c ∧ c ≤ maxLen ∧ (∀ t ∈ l, t.length ≤ maxLen ∧ ∀ k ∈ t, MayNd k) ∧ HoldsTs w A l := by
  obtain ⟨A, n, c, rfl, h1, h2, h3⟩ := open_row e_trees e_cnodes (by omega) h
  rcases Nat.eq_zero_or_pos n with rfl | hn
  · exact ⟨A, [], c, rfl, h1, h2, fun k hk => by simp at hk, HoldsTs.nil _ _⟩
  · obtain ⟨b, off, rfl, hall⟩ := h3 hn
    obtain ⟨l, hl, hp⟩ := choose_list n (fun i (t : List Nd) => (∃ B c', w.cell? ⟨b, off + i, none⟩ = some (.slice B t.length c') ∧ HoldsN w B t ∧ t.length ≤ c') ∧ t.length ≤ maxLen ∧ ∀ k ∈ t, MayNd k) (fun i hi => by
      obtain ⟨f', cs', y, q1, q2, q3⟩ := hall i hi
      obtain ⟨B, t, c', rfl, r1, r2, r3, r4⟩ := open_nodes q3
      have s0 := q2 0 (by omega)
      exact ⟨t, ⟨B, c', by simpa using s0, r4, r1⟩, by omega, r3⟩)
    refine ⟨_, l, c, by rw [hl], by omega, h2, fun k hk => ?_, fun i k hk => ⟨b, off, rfl, (hp i k hk).1⟩⟩
    obtain ⟨i, hi⟩ := List.getElem?_of_mem hk
    exact (hp i k hi).2
/-- The argument's own value. -/
theorem trod_cells {t : TypeId} {v : Value} {d : DataW H} {ps : List MemPlace} {a : Option Addr} {n c : Nat} (e : v = .slice a n c) (h : DataW.Trod enc Tryz.prog w base sp held t v d ps) : ∃ fuel, DataW.trod enc Tryz.prog w base sp held fuel t [v] = some (d, ps) := by
  obtain ⟨fuel, hf⟩ := h
  subst e
  exact ⟨fuel, hf⟩
set_option maxRecDepth 100000 in
theorem open_nodesV {r : Reach} {b0 : Nat} {v : Value} {d : DataW H} {ps : List MemPlace} (hval : Value.okWide Tryz.prog w r b0 23 v) (h : DataW.Trod enc Tryz.prog w base sp held 23 v d ps) :
    ∃ (A : Option Addr) (l : List Nd) (c : Nat), v = .slice A l.length c ∧ l.length ≤ c ∧ c ≤ maxLen ∧ (∀ k ∈ l, MayNd k) ∧ HoldsN w A l := by
  obtain ⟨a0, n0, c0, e⟩ := okWide_slice e_nodes hval
  obtain ⟨fuel, hf⟩ := trod_cells e h
  obtain ⟨A, l, c, hc, h1⟩ := open_nodes hf
  exact ⟨A, l, c, (List.cons.inj hc).1, h1⟩
set_option maxRecDepth 100000 in
theorem open_treesV {r : Reach} {b0 : Nat} {v : Value} {d : DataW H} {ps : List MemPlace} (hval : Value.okWide Tryz.prog w r b0 115 v) (h : DataW.Trod enc Tryz.prog w base sp held 115 v d ps) :
    ∃ (A : Option Addr) (l : List (List Nd)) (c : Nat), v = .slice A l.length c ∧ l.length ≤ c ∧ c ≤ maxLen ∧ (∀ t ∈ l, t.length ≤ maxLen ∧ ∀ k ∈ t, MayNd k) ∧ HoldsTs w A l := by
  obtain ⟨a0, n0, c0, e⟩ := okWide_slice e_trees hval
  obtain ⟨fuel, hf⟩ := trod_cells e h
  obtain ⟨A, l, c, hc, h1⟩ := open_trees hf
  exact ⟨A, l, c, (List.cons.inj hc).1, h1⟩
end
end Go.Proofs.YtebejlnegalokaaGreatDoor.Nz
