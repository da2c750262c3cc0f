/-
  Values of few levels in a list, or in an object. No program here.
-/
import Derived.Test.YtamclieppbnpiabGreatDoorProg
import Derived.Test.YtamclieppbnpiabGreatDoorReg
import Derived.WalkKit
import Derived.WalkSpells
import Derived.WalkLawsBesides
import Derived.Lib.Hide
import Derived.Lib.MinMax
import Derived.Deep.QuietTactic
import Derived.BigQuiet
import Derived.OwnWalk
import Derived.Deep.AppendLies
import Derived.KernelRfl
import Derived.Test.YtamclieppbnpiabGreatDoorJw28
set_option linter.unusedSimpArgs false
set_option linter.unusedVariables false
namespace Go.Proofs.YtamclieppbnpiabGreatDoor
open Go Go.RowKit Go.Maps

theorem own_deep (d : Nat) (v : Js) : ownJ (d + 1) v = ownJ 1 v := by
  unfold ownJ
  simp
theorem few_deep : ∀ (k : Nat) (v : Js) (d e : Nat), k ≤ d → k ≤ e → rightJ (d + 1) (fewJ k v) = rightJ (e + 1) (fewJ k v)
  | 0, v, d, e, _, _ => by
    have hl : (fewJ 0 v).l = [] := rfl
    have h : ∀ j, rightJ (j + 1) (fewJ 0 v) = ownJ 1 (fewJ 0 v) := fun j => by
      rw [rightJ, own_deep j, hl]
      simp
    rw [h d, h e]
  | k + 1, v, d, e, hd, he => by
    obtain ⟨d, rfl⟩ : ∃ j, d = j + 1 := ⟨d - 1, by omega⟩
    obtain ⟨e, rfl⟩ : ∃ j, e = j + 1 := ⟨e - 1, by omega⟩
    have hl : (fewJ (k + 1) v).l = (v.l.take 6).map (fewJ k) := rfl
    have h : ∀ j, rightJ (j + 1) (fewJ (k + 1) v) = (ownJ 1 (fewJ (k + 1) v) && (v.l.take 6).all (rightJ j ∘ fewJ k)) := fun j => by
      rw [rightJ, own_deep j, hl, List.all_map]
    rw [h, h, show rightJ (d + 1) ∘ fewJ k = rightJ (e + 1) ∘ fewJ k from funext fun x => few_deep k x d e (by omega) (by omega)]
theorem few_63 (v : Js) : rightJ 63 (fewJ 4 v) = rightJ 64 (fewJ 4 v) := few_deep 4 v 62 63 (by omega) (by omega)
/-! ### An object of one key -/
abbrev oneJ (k : ByteArray) (v : Js) : Js := .mk 5 false 0 ByteArray.empty [k] [v]
theorem one_right (k : ByteArray) (v : Js) : rightJ 64 (oneJ k (fewJ 4 v)) = (validB k && rightJ 64 (fewJ 4 v)) := by
  have e : rightJ 64 (oneJ k (fewJ 4 v)) = (ownJ 64 (oneJ k (fewJ 4 v)) && [fewJ 4 v].all (rightJ 63)) := rfl
  rw [e, own_mk, ← few_63]
  simp [keysOk, keysGo, inB]
theorem one_get (k m : ByteArray) (v : Js) : getJ (oneJ k v) m = if k = m then some v else none := by
  unfold getJ
  simp [Js.kind, Js.keys, Js.l, getGo]
theorem one_ok {k : ByteArray} {v : Js} (hk : k.size ≤ 50) (h : okJ 100 v) : okJ 100 (oneJ k v) :=
  okJ_iff.2 ⟨inI0, by simp [Js.s], by simp [Js.keys], by simp [Js.l], fun x hx => by simp [Js.keys] at hx; subst hx; omega, fun x hx => by simp [Js.l] at hx; subst hx; exact h⟩
/-! ### Two in a list, two in an object -/
abbrev pairJ (v w : Js) : Js := .mk 4 false 0 ByteArray.empty [] [v, w]
abbrev bothJ (k m : ByteArray) (v w : Js) : Js := .mk 5 false 0 ByteArray.empty [k, m] [v, w]
def pairT (a b : List UInt8) : List UInt8 := 91 :: (a ++ 44 :: (b ++ [93]))
def bothT (p q a b : List UInt8) : List UInt8 := 123 :: (p ++ 58 :: (a ++ 44 :: (q ++ 58 :: (b ++ [125]))))
theorem pair_cat (a b : List UInt8) : (⟨#[91]⟩ ++ bs a ++ ⟨#[44]⟩ ++ bs b ++ ⟨#[93]⟩ : ByteArray) = bs (pairT a b) := by
  show bs [91] ++ bs a ++ bs [44] ++ bs b ++ bs [93] = _
  simp [bs_app, pairT]
theorem both_cat (p q a b : List UInt8) : (⟨#[123]⟩ ++ bs p ++ ⟨#[58]⟩ ++ bs a ++ ⟨#[44]⟩ ++ bs q ++ ⟨#[58]⟩ ++ bs b ++ ⟨#[125]⟩ : ByteArray) = bs (bothT p q a b) := by
  show bs [123] ++ bs p ++ bs [58] ++ bs a ++ bs [44] ++ bs q ++ bs [58] ++ bs b ++ bs [125] = _
  simp [bs_app, bothT]
section
variable {x y : Js} (hx : okJ maxLen x) (hy : okJ maxLen y) (h1 : rightJ 64 (fewJ 4 x) = true) (h2 : rightJ 64 (fewJ 4 y) = true)
include hx hy h1 h2
theorem pair_parse : parseL (pairT (jtext (fewJ 4 x)) (jtext (fewJ 4 y))) = .ok (pairJ (fewJ 4 x) (fewJ 4 y)) := by
  have e : jtext (pairJ (fewJ 4 x) (fewJ 4 y)) = pairT (jtext (fewJ 4 x)) (jtext (fewJ 4 y)) := by
    unfold pairT
    rw [jtext]
    simp [jtexts, sepL]
  have er : rightJ 64 (pairJ (fewJ 4 x) (fewJ 4 y)) = (ownJ 64 (pairJ (fewJ 4 x) (fewJ 4 y)) && [fewJ 4 x, fewJ 4 y].all (rightJ 63)) := rfl
  rw [← e]
  refine parse_text ?_ (fitJ_iff.2 ⟨inI0, fun z hz => ?_⟩)
  · rw [er, own_mk]
    simp [few_63, h1, h2]
  · simp only [Js.l, List.mem_cons, List.not_mem_nil, or_false] at hz
    rcases hz with rfl | rfl
    · exact fewJ_fit 4 hx
    · exact fewJ_fit 4 hy
theorem both_parse {k m : ByteArray} (hk : validB k = true) (hm : validB m = true) (hkm : k ≠ m) : parseL (bothT (quoteL k.data.toList) (quoteL m.data.toList) (jtext (fewJ 4 x)) (jtext (fewJ 4 y))) = .ok (bothJ k m (fewJ 4 x) (fewJ 4 y)) := by
  have e : jtext (bothJ k m (fewJ 4 x) (fewJ 4 y)) = bothT (quoteL k.data.toList) (quoteL m.data.toList) (jtext (fewJ 4 x)) (jtext (fewJ 4 y)) := by
    unfold bothT
    rw [jtext]
    simp [jtexts, sepL, pairL]
  have er : rightJ 64 (bothJ k m (fewJ 4 x) (fewJ 4 y)) = (ownJ 64 (bothJ k m (fewJ 4 x) (fewJ 4 y)) && [fewJ 4 x, fewJ 4 y].all (rightJ 63)) := rfl
  rw [← e]
  refine parse_text ?_ (fitJ_iff.2 ⟨inI0, fun z hz => ?_⟩)
  · rw [er, own_mk]
    simp [few_63, h1, h2, keysOk, keysGo, inB, hk, hm, hkm]
  · simp only [Js.l, List.mem_cons, List.not_mem_nil, or_false] at hz
    rcases hz with rfl | rfl
    · exact fewJ_fit 4 hx
    · exact fewJ_fit 4 hy
end
theorem twice_parse {x : Js} (y : Js) (hx : okJ maxLen x) (h1 : rightJ 64 (fewJ 4 x) = true) {k : ByteArray} (hk : validB k = true) : parseL (bothT (quoteL k.data.toList) (quoteL k.data.toList) (jtext (fewJ 4 x)) (jtext (fewJ 4 y))) = .error 150 := by
  have hv : ∀ t, okT t → valueL 63 (jtext (fewJ 4 x) ++ t) = .ok (fewJ 4 x, t) := fun t ht => value_text _ 63 ((few_63 x).trans h1) (fewJ_fit 4 hx) t ht
  have hq : ∀ t, ∃ r, quoteL k.data.toList ++ t = 34 :: r := fun t => ⟨_, rfl⟩
  have key2 : ∀ t, keyL [k] (skipL (quoteL k.data.toList ++ t)) = .error 150 := fun t => by
    unfold keyL quoteL
    rw [List.cons_append, skip_head (by decide)]
    simp only [takeP, if_true]
    rw [List.append_assoc, List.singleton_append, wordL_quote hk]
    simp only
    rw [bs_of]
    simp [inB]
  unfold parseL bothT
  rw [skip_head (by decide), valueL.eq_def]
  simp only
  rw [if_neg (by decide), if_pos (by decide)]
  obtain ⟨r, hr⟩ := hq (58 :: (jtext (fewJ 4 x) ++ 44 :: (quoteL k.data.toList ++ 58 :: (jtext (fewJ 4 y) ++ [125]))))
  have e1 := keyL_pair (keys := []) hk rfl (fewJ 4 x) (44 :: (quoteL k.data.toList ++ 58 :: (jtext (fewJ 4 y) ++ [125])))
  have hs : skipL (quoteL k.data.toList ++ 58 :: (jtext (fewJ 4 x) ++ 44 :: (quoteL k.data.toList ++ 58 :: (jtext (fewJ 4 y) ++ [125])))) = quoteL k.data.toList ++ 58 :: (jtext (fewJ 4 x) ++ 44 :: (quoteL k.data.toList ++ 58 :: (jtext (fewJ 4 y) ++ [125]))) := by
    rw [hr]
    exact skip_head (by decide)
  unfold itemsL
  rw [hs]
  simp only [decide_true]
  rw [show takeP [endJ true] (quoteL k.data.toList ++ 58 :: (jtext (fewJ 4 x) ++ 44 :: (quoteL k.data.toList ++ 58 :: (jtext (fewJ 4 y) ++ [125])))) = none by rw [hr]; exact takeP_no (by decide)]
  obtain ⟨n, hn⟩ : ∃ n, (quoteL k.data.toList ++ 58 :: (jtext (fewJ 4 x) ++ 44 :: (quoteL k.data.toList ++ 58 :: (jtext (fewJ 4 y) ++ [125])))).length + 1 = n + 1 + 1 := ⟨_, by rw [hr, List.length_cons]⟩
  simp only
  rw [hn, itemsGo_succ]
  unfold entJ
  rw [hs] at e1 ⊢
  simp only [if_true]
  rw [e1]
  simp only
  rw [hv _ (okT_cons (by decide) _)]
  simp only
  rw [thenL_more]
  simp only
  rw [itemsGo_succ]
  unfold entJ
  simp only [if_true, List.nil_append]
  rw [key2]
/-- The two items. -/
theorem both_get1 (k m : ByteArray) (v w : Js) : getJ (bothJ k m v w) k = some v := by
  unfold getJ
  simp [Js.kind, Js.keys, Js.l, getGo]
theorem both_get2 {k m : ByteArray} (v w : Js) (h : k ≠ m) : getJ (bothJ k m v w) m = some w := by
  unfold getJ
  simp [Js.kind, Js.keys, Js.l, getGo, h]
theorem two_ok {M : Nat} {K : List ByteArray} {kind : Int} {v w : Js} (h2 : 2 ≤ M) (hk : ∀ k ∈ K, k.size ≤ M) (hK : K.length ≤ M) (hv : okJ M v) (hw : okJ M w) : okJ M (.mk kind false 0 ByteArray.empty K [v, w]) :=
  okJ_iff.2 ⟨inI0, by simp [Js.s], hK, by simp [Js.l]; omega, hk, fun x hx => by
    simp only [Js.l, List.mem_cons, List.not_mem_nil, or_false] at hx
    rcases hx with rfl | rfl
    · exact hv
    · exact hw⟩
end Go.Proofs.YtamclieppbnpiabGreatDoor
