/-
  XNdPl, turned: what this seat needs of it.
-/
import Derived.Test.YtebejlnegalokaaGreatDoorProg
import Derived.Test.YtebejlnegalokaaGreatDoorReg
import Derived.WalkKit
import Derived.WalkSpells
import Derived.WalkLawsBesides
import Derived.Lib.Hide
import Derived.Lib.MinMax
import Derived.Deep.QuietTactic
import Derived.BigQuiet
import Derived.OwnWalk
import Derived.Deep.AppendLies
import Derived.KernelRfl
import Derived.WalkKit
import Derived.Test.YtebejlnegalokaaGreatDoorBytes
import Derived.Laws.OwnMore
import Derived.Test.YtebejlnegalokaaGreatDoorMapI
import Derived.Deep.RegionWith
import Derived.Deep.CutBlock
import Derived.Deep.OwnRows
import Derived.LaidEql
import Derived.Stop.Asserts
import Derived.RowKitTokens
import Derived.Shelf.Strings.Builder1
import Derived.Shelf.Small.Strs
import Derived.Shelf.Strings.BuilderF
import Derived.Shelf.Strings.BuilderK
import Derived.Shelf.Strconv.Itoa0
import Derived.Shelf.Strconv.Itoa1
import Derived.Shelf.LaysM
import Derived.Shelf.Strconv.Itoa2
import Derived.Shelf.Strconv.Itoa3
import Derived.Shelf.Strings.Search1
import Derived.Lib.FrozenHead2
import Derived.Laws.IdiomStrings
import Derived.Lib.MinMax
import Derived.Maps.AppendAt
import Derived.Lib.Builder
import Derived.OneCell
import Derived.Test.YtebejlnegalokaaGreatDoorRegZ
import Derived.Deep.Upon
import Derived.Laws.CopyOwn
import Derived.Deep.QuietTactic
import Derived.BigQuiet
import Derived.RangeFuncNested
import Derived.RangeFuncBound
import Derived.RangeFuncCalls
import Derived.RangeFuncLeaves
import Derived.RangeFuncBox
import Derived.OwnWalkIn
import Derived.TacticsInMore
import Derived.LoopNIn
import Derived.LoopIn
import Derived.Deep.RegionLaw
import Derived.Deep.Cut
import Derived.Test.YtebejlnegalokaaGreatDoorRegIn
import Derived.Test.YtebejlnegalokaaGreatDoorJoint
import Derived.ChangeMaps5
import Derived.Deep.Slices
import Derived.WideShapes
import Derived.Test.YtebejlnegalokaaGreatDoorPaLay
import Derived.Test.YtebejlnegalokaaGreatDoorNzM9
set_option linter.unusedSimpArgs false
set_option linter.unusedVariables false
namespace Go.Proofs.YtebejlnegalokaaGreatDoor.Nz
open Go.RowKit
theorem kidsOk_len {i : Int} : ∀ {last : Int} {ks : List Int}, kidsOk i last ks = true → last < i → (ks.length : Int) ≤ i - last - 1
  | last, [], _, h => by simp; omega
  | last, k :: ks, h, hl => by
    simp only [kidsOk, Bool.and_eq_true, decide_eq_true_eq] at h
    obtain ⟨⟨h1, h2⟩, h3⟩ := h
    have := kidsOk_len h3 h2
    simp only [List.length_cons]
    omega
theorem right_int {t : List Nd} (h : rightN t = true) (hx : ∀ x ∈ t, x.text.size ≤ 1000000) : IntN t := by
  obtain ⟨r1, r2, hok, _⟩ := rightN_parts h
  intro x hm
  obtain ⟨j, hj⟩ := List.getElem?_of_mem hm
  have hl : j < t.length := (List.getElem?_eq_some_iff.1 hj).1
  obtain ⟨h1, h2⟩ := nodesOk_at hok hj
  obtain ⟨n, e, n1, n2⟩ := kind_range h2
  have h3 := kidsOk_len h1 (by omega)
  refine ⟨by rw [e]; exact wf_small (by omega) (by omega), by omega, hx x hm, fun k hk => ?_⟩
  have := kids_small h x hm k hk
  exact wf_small (by omega) (by omega)
def bodyOf : Nat → List (List Nd) → List Nd
  | _, [] => []
  | n, t :: l => movedN n t ++ bodyOf (n + t.length) l
def endsOf : Nat → List (List Nd) → List Int
  | _, [] => []
  | n, t :: l => (((n + t.length : Nat) : Int) - 1) :: endsOf (n + t.length) l
def sizeOfT (l : List (List Nd)) : Nat := (l.map List.length).sum
theorem joinGo_eq : ∀ (l : List (List Nd)) (out : List Nd) (ks : List Int), joinGo out ks l = if l.all rightN then some (out ++ bodyOf out.length l, ks ++ endsOf out.length l) else none
  | [], out, ks => by simp [joinGo, bodyOf, endsOf]
  | t :: l, out, ks => by
    rw [joinGo_step]
    cases ht : rightN t with
    | false => simp [ht]
    | true =>
      simp only [if_true]
      rw [joinGo_eq l]
      have e : (out ++ movedN (out.length : Int) t).length = out.length + t.length := by rw [List.length_append, moved_len]
      rw [e]
      simp only [List.all_cons, ht, Bool.true_and, bodyOf, endsOf, List.append_assoc, List.singleton_append]
theorem joinN_eq {kind : Int} {text : ByteArray} {l : List (List Nd)} {out : List Nd} (h : joinN kind text l = some out) : out = bodyOf 0 l ++ [⟨kind, text, endsOf 0 l⟩] ∧ (∀ t ∈ l, rightN t = true) ∧ rightN out = true := by
  unfold joinN at h
  rw [joinGo_eq] at h
  cases ha : l.all rightN with
  | false => rw [ha] at h; simp at h
  | true =>
    rw [ha] at h
    simp only [if_true, List.nil_append, List.length_nil] at h
    cases hr : rightN (bodyOf 0 l ++ [⟨kind, text, endsOf 0 l⟩]) with
    | false => rw [hr] at h; simp at h
    | true =>
      rw [hr] at h
      simp only [if_true] at h
      cases h
      exact ⟨rfl, fun t ht => List.all_eq_true.1 ha t ht, hr⟩
theorem body_mem : ∀ {l : List (List Nd)} {n : Nat} {x : Nd}, x ∈ bodyOf n l → ∃ t ∈ l, ∃ y ∈ t, x.text = y.text
  | [], n, x, h => by simp [bodyOf] at h
  | t :: l, n, x, h => by
    simp only [bodyOf, List.mem_append] at h
    rcases h with h | h
    · unfold movedN at h
      obtain ⟨y, hy, rfl⟩ := List.mem_map.1 h
      exact ⟨t, List.mem_cons_self, y, hy, rfl⟩
    · obtain ⟨t', h1, y, h2, h3⟩ := body_mem h
      exact ⟨t', List.mem_cons_of_mem _ h1, y, h2, h3⟩
theorem kid_int {t : List Nd} {n : Int} {out : List Nd} (h : kidN t n = some out) (hi : IntN t) : IntN out ∧ rightN out = true := by
  unfold kidN at h
  split at h
  · split at h
    · rename_i hr
      cases h
      refine ⟨right_int hr fun x hm => ?_, hr⟩
      rw [kidOf_eq] at hm
      unfold movedN at hm
      obtain ⟨y, hy, rfl⟩ := List.mem_map.1 hm
      unfold subOf at hy
      exact (hi y (List.mem_of_mem_drop (List.mem_of_mem_take hy))).2.2.1
    · cases h
  · cases h
def Placed (big : List Nd) (off : Nat) (t : List Nd) : Prop := ∀ (j : Nat) (x : Nd), t[j]? = some x → big[off + j]? = some { x with kids := x.kids.map (· + (off : Int)) }
theorem fold_shift_min {g h : Int → Nat} {off : Nat} : ∀ (l : List Int) (b : Nat), (∀ k ∈ l, g (k + off) = off + h k) → (l.map (· + (off : Int))).foldl (fun m k => min m (g k)) (off + b) = off + l.foldl (fun m k => min m (h k)) b
  | [], b, _ => rfl
  | k :: l, b, hk => by
    rw [List.map_cons, List.foldl_cons, List.foldl_cons, hk k List.mem_cons_self, show min (off + b) (off + h k) = off + min b (h k) by omega]
    exact fold_shift_min l _ (fun y hy => hk y (List.mem_cons_of_mem _ hy))
theorem fold_shift_max {g h : Int → Nat} {off : Nat} : ∀ (l : List Int) (b : Nat), (∀ k ∈ l, g (k + off) = h k) → (l.map (· + (off : Int))).foldl (fun m k => max m (g k)) b = l.foldl (fun m k => max m (h k)) b
  | [], b, _ => rfl
  | k :: l, b, hk => by
    rw [List.map_cons, List.foldl_cons, List.foldl_cons, hk k List.mem_cons_self]
    exact fold_shift_max l _ (fun y hy => hk y (List.mem_cons_of_mem _ hy))
theorem placed_first {big t : List Nd} {off : Nat} (hb : nodesOk 0 big = true) (ht : nodesOk 0 t = true) (hp : Placed big off t) : ∀ (n i : Nat), i < n → i < t.length → firstAt big (off + i) = off + firstAt t i
  | 0, i, h1, _ => by omega
  | n + 1, i, h1, h2 => by
    have g := List.getElem?_eq_getElem h2
    have gb := hp i _ g
    rw [firstAt_eq hb (List.getElem?_eq_some_iff.1 gb).1 gb, firstAt_eq ht h2 g]
    refine fold_shift_min (g := fun k => firstAt big k.toNat) (h := fun k => firstAt t k.toNat) _ _ fun k hk => ?_
    have hk2 := nodes_kid ht h2 (k := k) (by rw [nodeAt_some g]; exact hk)
    show firstAt big (k + off).toNat = off + firstAt t k.toNat
    rw [show (k + (off : Int)).toNat = off + k.toNat by omega]
    exact placed_first hb ht hp n k.toNat (by omega) (by omega)
theorem placed_deep {big t : List Nd} {off : Nat} (hb : nodesOk 0 big = true) (ht : nodesOk 0 t = true) (hp : Placed big off t) : ∀ (n i : Nat), i < n → i < t.length → deepAt big (off + i) = deepAt t i
  | 0, i, h1, _ => by omega
  | n + 1, i, h1, h2 => by
    have g := List.getElem?_eq_getElem h2
    have gb := hp i _ g
    rw [deepAt_eq hb (List.getElem?_eq_some_iff.1 gb).1 gb, deepAt_eq ht h2 g]
    congr 1
    refine fold_shift_max (g := fun k => deepAt big k.toNat) (h := fun k => deepAt t k.toNat) _ _ fun k hk => ?_
    have hk2 := nodes_kid ht h2 (k := k) (by rw [nodeAt_some g]; exact hk)
    show deepAt big (k + off).toNat = deepAt t k.toNat
    rw [show (k + (off : Int)).toNat = off + k.toNat by omega]
    exact placed_deep hb ht hp n k.toNat (by omega) (by omega)
theorem placed_sub {big t : List Nd} {off : Nat} (hp : Placed big off t) : (big.drop off).take t.length = movedN off t := by
  refine List.ext_getElem? fun j => ?_
  unfold movedN
  rw [List.getElem?_map, List.getElem?_take]
  split
  · rename_i h
    rw [List.getElem?_drop, hp j _ (List.getElem?_eq_getElem h), List.getElem?_eq_getElem h]
    rfl
  · rename_i h
    rw [List.getElem?_eq_none (by omega)]
    rfl
theorem moved_back (off : Int) (t : List Nd) : movedN (-off) (movedN off t) = t := by
  unfold movedN
  rw [List.map_map]
  conv => rhs; rw [← List.map_id t]
  refine List.map_congr_left fun x _ => ?_
  obtain ⟨k, s, ks⟩ := x
  show Nd.mk k s _ = Nd.mk k s ks
  congr 1
  rw [List.map_map]
  conv => rhs; rw [← List.map_id ks]
  refine List.map_congr_left fun y _ => ?_
  show y + off + -off = y
  omega
/-- The last node reaches all. -/
theorem first_kid_le {t : List Nd} (h : nodesOk 0 t = true) {i : Nat} (hi : i < t.length) {k : Int} (hk : k ∈ (nodeAt t i).kids) : firstAt t i ≤ firstAt t k.toNat := by
  have g := List.getElem?_eq_getElem hi
  rw [nodeAt_some g] at hk
  rw [firstAt_eq h hi g]
  have key : ∀ (l : List Int) (b : Nat), k ∈ l → l.foldl (fun m k => min m (firstAt t k.toNat)) b ≤ firstAt t k.toNat := by
    intro l
    induction l with
    | nil => intro b hm; simp at hm
    | cons c l ih =>
      intro b hm
      rcases List.mem_cons.1 hm with rfl | hm
      · exact Nat.le_trans (fold_min_le l _) (Nat.min_le_right _ _)
      · exact ih _ hm
  exact key _ _ hk
theorem first_root {t : List Nd} (hr : rightN t = true) : ∀ (n j : Nat), t.length - 1 - j < n → j < t.length → firstAt t (t.length - 1) ≤ firstAt t j
  | 0, j, h, _ => by omega
  | n + 1, j, h, hj => by
    obtain ⟨r1, r2, hok, hc⟩ := rightN_parts hr
    by_cases he : j = t.length - 1
    · rw [he]
      exact Nat.le_refl _
    · have h1 := hc j (by omega)
      have hm : (j : Int) ∈ kidsAll t := List.count_pos_iff.1 (by omega)
      simp only [kidsAll, List.mem_flatMap] at hm
      obtain ⟨x, hx, hk⟩ := hm
      obtain ⟨p, hp⟩ := List.getElem?_of_mem hx
      have hpl := (List.getElem?_eq_some_iff.1 hp).1
      have hk2 : (j : Int) ∈ (nodeAt t p).kids := by rw [nodeAt_some hp]; exact hk
      have hlt := nodes_kid hok hpl hk2
      have h2 := first_kid_le hok hpl hk2
      have h3 := first_root hr n p (by omega) hpl
      have e : ((j : Int)).toNat = j := by omega
      rw [e] at h2
      omega
theorem first_zero {t : List Nd} (hr : rightN t = true) : firstAt t (t.length - 1) = 0 := by
  obtain ⟨r1, r2, hok, _⟩ := rightN_parts hr
  have h1 := first_root hr (t.length) 0 (by omega) (by omega)
  have h2 := firstAt_le hok (i := 0) (by omega)
  omega
def PlacedAll (big : List Nd) : Nat → List (List Nd) → Prop
  | _, [] => True
  | n, t :: l => Placed big n t ∧ PlacedAll big (n + t.length) l
def offAt : Nat → List (List Nd) → Nat → Nat
  | n, [], _ => n
  | n, _ :: _, 0 => n
  | n, t :: l, i + 1 => offAt (n + t.length) l i
theorem placed_of {pre post t : List Nd} {n : Nat} (h : pre.length = n) : Placed (pre ++ (movedN n t ++ post)) n t := by
  intro j x hx
  have hj := (List.getElem?_eq_some_iff.1 hx).1
  rw [List.getElem?_append_right (by omega), List.getElem?_append_left (by rw [moved_len]; omega)]
  unfold movedN
  rw [List.getElem?_map, show n + j - pre.length = j by omega, hx]
  rfl
theorem placed_all : ∀ (l : List (List Nd)) (pre post : List Nd) (n : Nat), pre.length = n → PlacedAll (pre ++ (bodyOf n l ++ post)) n l
  | [], _, _, _, _ => trivial
  | t :: l, pre, post, n, h => by
    refine ⟨?_, ?_⟩
    · unfold bodyOf
      rw [List.append_assoc]
      exact placed_of h
    · unfold bodyOf
      rw [List.append_assoc, ← List.append_assoc]
      exact placed_all l _ post _ (by rw [List.length_append, moved_len, h])
theorem placedAll_at {big : List Nd} : ∀ {l : List (List Nd)} {n i : Nat} {t : List Nd}, PlacedAll big n l → l[i]? = some t → Placed big (offAt n l i) t
  | [], n, i, t, _, h => by simp at h
  | u :: l, n, 0, t, hp, h => by
    simp at h
    subst h
    exact hp.1
  | u :: l, n, i + 1, t, hp, h => placedAll_at (l := l) (n := n + u.length) (i := i) hp.2 (by simpa using h)
theorem ends_at : ∀ {l : List (List Nd)} {n i : Nat} {t : List Nd}, l[i]? = some t → (endsOf n l)[i]? = some (((offAt n l i + t.length : Nat) : Int) - 1)
  | [], n, i, t, h => by simp at h
  | u :: l, n, 0, t, h => by
    simp at h
    subst h
    rfl
  | u :: l, n, i + 1, t, h => ends_at (l := l) (by simpa using h)
theorem ends_length : ∀ (l : List (List Nd)) (n : Nat), (endsOf n l).length = l.length
  | [], _ => rfl
  | t :: l, n => by simp [endsOf, ends_length l]
theorem body_length : ∀ (l : List (List Nd)) (n : Nat), (bodyOf n l).length = sizeOfT l
  | [], _ => rfl
  | t :: l, n => by
    unfold bodyOf sizeOfT
    rw [List.length_append, moved_len, body_length l, List.map_cons, List.sum_cons]
    rfl
def deepest (l : List (List Nd)) : Nat := l.foldl (fun m t => max m (deepN t)) 0
theorem deep_ends {big : List Nd} (hb : nodesOk 0 big = true) : ∀ (l : List (List Nd)) (n b : Nat), PlacedAll big n l → (∀ t ∈ l, rightN t = true) → (endsOf n l).foldl (fun m k => max m (deepAt big k.toNat)) b = l.foldl (fun m t => max m (deepN t)) b
  | [], _, _, _, _ => rfl
  | t :: l, n, b, hp, hr => by
    have hrt := hr t List.mem_cons_self
    obtain ⟨r1, r2, hok, _⟩ := rightN_parts hrt
    unfold endsOf
    rw [List.foldl_cons, List.foldl_cons, show (((n + t.length : Nat) : Int) - 1).toNat = n + (t.length - 1) by omega, placed_deep hb hok hp.1 t.length (t.length - 1) (by omega) (by omega), deepN_yes hrt]
    exact deep_ends hb l _ _ hp.2 (fun u hu => hr u (List.mem_cons_of_mem _ hu))
/-- What is joined, and what its kids are. -/
structure JoinedIs (kind : Int) (text : ByteArray) (l : List (List Nd)) (out : List Nd) : Prop where
  right : rightN out = true
  size : out.length = sizeOfT l + 1
  kids : rootKids out = endsOf 0 l
  kid : ∀ (i : Nat) (t : List Nd), l[i]? = some t → kidN out (i : Int) = some t
  none : kidN out (l.length : Int) = none
  deep : deepN out = deepest l + 1
  rights : ∀ t ∈ l, rightN t = true
theorem joined_is {kind : Int} {text : ByteArray} {l : List (List Nd)} {out : List Nd} (h : joinN kind text l = some out) : JoinedIs kind text l out := by
  obtain ⟨e, hr, ho⟩ := joinN_eq h
  obtain ⟨r1, r2, hok, _⟩ := rightN_parts ho
  have hsz : out.length = sizeOfT l + 1 := by rw [e, List.length_append, body_length]; rfl
  have hlast : out[out.length - 1]? = some ⟨kind, text, endsOf 0 l⟩ := by
    rw [hsz, Nat.add_sub_cancel, e, List.getElem?_append_right (by rw [body_length]; omega), body_length, Nat.sub_self]
    rfl
  have hkids : rootKids out = endsOf 0 l := by unfold rootKids; rw [nodeAt_some hlast]
  have hpl : PlacedAll out 0 l := by
    have := placed_all l [] [⟨kind, text, endsOf 0 l⟩] 0 rfl
    rw [e]
    exact this
  refine ⟨ho, hsz, hkids, fun i t hi => ?_, ?_, ?_, hr⟩
  · have hil : i < l.length := (List.getElem?_eq_some_iff.1 hi).1
    have hrt := hr t (List.mem_of_getElem? hi)
    obtain ⟨t1, t2, tok, _⟩ := rightN_parts hrt
    have hp := placedAll_at hpl hi
    have hat : ((rootKids out).getD i 0).toNat = offAt 0 l i + (t.length - 1) := by
      rw [hkids, List.getD_eq_getElem?_getD, ends_at hi]
      simp only [Option.getD_some]
      omega
    have hf : firstAt out (offAt 0 l i + (t.length - 1)) = offAt 0 l i := by rw [placed_first hok tok hp t.length _ (by omega) (by omega), first_zero hrt]; omega
    have hko : kidOf out i = t := by
      rw [kidOf_eq, hat]
      unfold subOf
      rw [hf, show offAt 0 l i + (t.length - 1) + 1 - offAt 0 l i = t.length by omega, placed_sub hp, moved_back]
    unfold kidN
    rw [if_pos ⟨ho, by omega, by rw [hkids, ends_length]; omega⟩, Int.toNat_natCast, hko, if_pos hrt]
  · unfold kidN
    rw [if_neg (fun h => by have := h.2.2; rw [hkids, ends_length] at this; omega)]
  · rw [deepN_yes ho, deepAt_eq hok (by omega) hlast]
    exact congrArg (· + 1) (deep_ends hok l 0 0 hpl hr)
end Go.Proofs.YtebejlnegalokaaGreatDoor.Nz
/-
  XNdLo, turned: what this seat needs of it.
-/
namespace Go.Proofs.YtebejlnegalokaaGreatDoor.Nz
open Go.RowKit
def outOf (o : Option (List Nd)) : List Nd := o.getD []
def codeO (o : Option (List Nd)) : Int := if o.isSome then 0 else 70
/-- A slice of nodes and a number. -/
def Gives (o : Option (List Nd)) (e : Ending) (w w' : World) : Prop := ∃ A c, e = .returned (.tuple #[.slice A (outOf o).length c, .int .i64 (codeO o)]) ∧ HoldsN w' A (outOf o) ∧ (outOf o).length ≤ c ∧ Below w.heap.size w w'
theorem JoinDone.gives {kind : Int} {text : ByteArray} {l : List (List Nd)} {e : Ending} {w w' : World} (h : JoinDone kind text l e w w') : Gives (joinN kind text l) e w w' := by
  obtain ⟨h1, hb⟩ := h
  unfold Gives
  cases hj : joinN kind text l with
  | none =>
    rw [hj] at h1
    exact ⟨none, 0, h1, HoldsN.nil _ _, Nat.le_refl _, hb⟩
  | some out =>
    rw [hj] at h1
    obtain ⟨v, L, rfl, hN, hM⟩ := h1
    obtain ⟨A, c, rfl, h2, h3⟩ := hN.opened hM rfl
    exact ⟨A, c, rfl, h2, h3, hb⟩
theorem KidGot.gives {t : List Nd} {n : Int} {e : Ending} {w w' : World} (h : KidGot t n e w w') : Gives (kidN t n) e w w' := by
  obtain ⟨h1, hb⟩ := h
  unfold Gives
  cases hj : kidN t n with
  | none =>
    rw [hj] at h1
    exact ⟨none, 0, h1, HoldsN.nil _ _, Nat.le_refl _, hb⟩
  | some out =>
    rw [hj] at h1
    obtain ⟨v, L, rfl, hN, hM⟩ := h1
    obtain ⟨A, c, rfl, h2, h3⟩ := hN.opened hM rfl
    exact ⟨A, c, rfl, h2, h3, hb⟩
theorem out_int {o : Option (List Nd)} (h : ∀ x, o = some x → IntN x) : IntN (outOf o) := by
  cases o with
  | none => exact fun x hx => by simp [outOf] at hx
  | some x => exact h x rfl
theorem right_len {t : List Nd} (h : rightN t = true) : t.length ≤ 400 := (rightN_parts h).2.1
theorem out_len {o : Option (List Nd)} (h : ∀ x, o = some x → rightN x = true) : (outOf o).length ≤ 400 := by
  cases o with
  | none => simp [outOf]
  | some x => exact right_len (h x rfl)
theorem cut_size (s : ByteArray) : (cut50 s).size ≤ 50 := by simp [cut50, ByteArray.size_extract]; omega
theorem err_below {a : Addr} {w w' : World} (h : errNodeAt a w) (hb : Below w.heap.size w w') : errNodeAt a w' := (hb.cell (p := ⟨0, 0, none⟩) (cell_lt h)).trans h
theorem few_len (t : List Nd) : (fewN t).length ≤ 60 := by simp [fewN]; omega
theorem few_int {t : List Nd} (h : ∀ x ∈ t, MayNd x) : IntN (fewN t) := fewN_small t (fun x hx => ⟨(h x hx).1, (h x hx).2.2.2⟩)
/-- 'Few', opened. -/
theorem fewC (t : List Nd) (A : Option Addr) (c : Nat) (w : World) (hh : HoldsN w A t) (hl : t.length ≤ maxLen) (hm : ∀ x ∈ t, MayNd x) :
    Calls Tryz.prog 10 #[.slice A t.length c] w fun e w' => ∃ B d, e = .returned (.slice B (fewN t).length d) ∧ HoldsN w' B (fewN t) ∧ (fewN t).length ≤ d ∧ Below w.heap.size w w' := by
  refine (few_any t A c w hh hl (fun x hx => (hm x hx).2.1) (fun x hx => (hm x hx).2.2.1)).mono ?_
  rintro e w' ⟨v, L, rfl, hL, hN, hb⟩
  obtain ⟨B, d, rfl, h1, h2⟩ := hN.opened hL rfl
  exact ⟨B, d, rfl, h1, h2, hb⟩
end Go.Proofs.YtebejlnegalokaaGreatDoor.Nz
