/-
  The functions of two, looked up and called: Dy, IsDy.
-/
import Derived.Test.YtkghmcfbhojbaaaDoorProg
import Derived.Test.YtkghmcfbhojbaaaDoorReg
import Derived.WalkKit
import Derived.WalkSpells
import Derived.WalkLawsBesides
import Derived.Lib.Hide
import Derived.Lib.MinMax
import Derived.Deep.QuietTactic
import Derived.BigQuiet
import Derived.OwnWalk
import Derived.Deep.AppendLies
import Derived.KernelRfl
import Derived.Test.YtkghmcfbhojbaaaDoorNumO
import Derived.Test.YtkghmcfbhojbaaaDoorNumP
import Derived.Shelf.Abstract
set_option linter.unusedSimpArgs false
set_option linter.unusedVariables false
namespace Go.Proofs.YtkghmcfbhojbaaaDoor
open Go.RowKit

theorem puts_miss {f : FuncId} {look : ByteArray → Option Value} {g : ByteArray} : ∀ {l : List (ByteArray × Addr)}, g ∉ l.map Prod.fst → putsOf f l look g = look g
  | [], _ => rfl
  | (h, p) :: l, hn => by
    simp only [List.map_cons, List.mem_cons, not_or] at hn
    simp only [putsOf, if_neg hn.1]
    exact puts_miss hn.2
theorem puts_hit {f : FuncId} {look : ByteArray → Option Value} {g : ByteArray} : ∀ {l : List (ByteArray × Addr)}, g ∈ l.map Prod.fst → ∃ p, (g, p) ∈ l ∧ putsOf f l look g = some (.func (.func f) #[] #[.pointer (some p)])
  | [], h => by cases h
  | (h, p) :: l, hn => by
    by_cases e : g = h
    · subst e
      exact ⟨p, by simp, by simp [putsOf]⟩
    · simp only [List.map_cons, List.mem_cons] at hn
      obtain ⟨q, h1, h2⟩ := puts_hit (f := f) (look := look) (hn.resolve_left e)
      exact ⟨q, by simp [h1], by simp [putsOf, e, h2]⟩

theorem mem_cmps {g : ByteArray} : g ∈ cmps ↔ isCmp g := by simp [cmps, isCmp]
theorem mem_logics {g : ByteArray} : g ∈ logics ↔ isLog g := by simp [logics, isLog]

/-- Is there a function of two? -/
def isDyG (g : ByteArray) : Prop := g = gAdd ∨ g = gTake ∨ g = gTimes ∨ g = gDiv ∨ g = gRes ∨ g = gHi ∨ g = gLo ∨ isCmp g ∨ isLog g

/-- A function value tells, of two numbers, what the glyph's function does. -/
def DoesIt (a d : Addr) (g : ByteArray) (f : FuncId) (cap : Array Value) (w : World) : Prop :=
  ∀ x y : Int, fits x = true → fits y = true → Calls Tryd.prog f (#[.agg #[.int .i64 x, .int .i64 y]] ++ cap) w fun r w' => r = .returned (.tuple #[.int .i64 (dyOut g x y).1, errV a d g (dyOut g x y).2]) ∧ Below w.heap.size w w'

theorem dyOut_none {g : ByteArray} (h : ¬ isDyG g) (x y : Int) : dyOut g x y = (0, 102) := by
  unfold isDyG isCmp isLog at h
  simp only [not_or] at h
  unfold dyOut
  simp [h]

theorem dyads_has (a d : Addr) (w : World) :
    Calls Tryd.prog 20 #[] w fun r w' => r = .returned (.map (some w.heap.size)) ∧ Below w.heap.size w w' ∧ ∃ look, MapIs w' Tryd.prog 9 w.heap.size 15 look ∧
      ∀ g, (¬ isDyG g ∧ look g = none) ∨ isDyG g ∧ ∃ f cap, look g = some (.func (.func f) #[] cap) ∧ Enters Tryd.prog f ∧ ∀ w2, Below w'.heap.size w' w2 → Laid10 a d w2 → DoesIt a d g f cap w2 := by
  refine (dyads_any w).mono ?_
  rintro r w' ⟨rfl, L, M, hL, hM, hm, cL, cM, hb⟩
  refine ⟨rfl, hb, _, hm, fun g => ?_⟩
  have memL : g ∈ L.map Prod.fst ↔ isCmp g := by rw [hL, List.mem_reverse, mem_cmps]
  have memM : g ∈ M.map Prod.fst ↔ isLog g := by rw [hM, List.mem_reverse, mem_logics]
  by_cases hl : isLog g
  · obtain ⟨p, h1, h2⟩ := puts_hit (f := 40) (look := putsOf 38 L look7) (memM.2 hl)
    refine Or.inr ⟨by unfold isDyG; simp [hl], _, _, h2, enters_of Tryd.func40 (by kernel_rfl) rfl, fun w2 hb2 hL2 x y hx hy => ?_⟩
    have hc := (cM _ h1).1
    refine (clos_log g hl x y p a d w2 ((hb2.cell (cell_lt hc)).trans hc)).mono fun r w' ⟨h1, h2⟩ => ⟨h1.trans ?_, h2⟩
    have e : dyOut g x y = logOut g x y := by rcases hl with rfl | rfl <;> rfl
    rw [e]
  · have e1 : putsOf 40 M (putsOf 38 L look7) g = putsOf 38 L look7 g := puts_miss (fun h => hl (memM.1 h))
    rw [e1]
    by_cases hc : isCmp g
    · obtain ⟨p, h1, h2⟩ := puts_hit (f := 38) (look := look7) (memL.2 hc)
      refine Or.inr ⟨by unfold isDyG; simp [hc], _, _, h2, enters_of Tryd.func38 (by kernel_rfl) rfl, fun w2 hb2 hL2 x y hx hy => ?_⟩
      have hcc := (cL _ h1).1
      refine (clos_cmp g hc x y p w2 ((hb2.cell (cell_lt hcc)).trans hcc)).mono fun r w' ⟨h1, h2⟩ => ⟨h1.trans ?_, h2⟩
      have e : dyOut g x y = (cmpOut g x y, 0) := by rcases hc with rfl | rfl | rfl | rfl | rfl | rfl <;> rfl
      rw [e]
      simp [errV]
    · have e2 : putsOf 38 L look7 g = look7 g := puts_miss (fun h => hc (memL.1 h))
      rw [e2]
      by_cases h7 : g = gAdd ∨ g = gTake ∨ g = gTimes ∨ g = gDiv ∨ g = gRes ∨ g = gHi ∨ g = gLo
      · rcases h7 with rfl | rfl | rfl | rfl | rfl | rfl | rfl
        · exact Or.inr ⟨by simp [isDyG], _, #[], rfl, enters_of Tryd.func31 (by kernel_rfl) rfl, fun w2 hb2 hL2 x y hx hy => add_out x y a d gAdd w2 hx hy hL2.over⟩
        · exact Or.inr ⟨by simp [isDyG], _, #[], rfl, enters_of Tryd.func32 (by kernel_rfl) rfl, fun w2 hb2 hL2 x y hx hy => take_out x y a d gTake w2 hx hy hL2.over⟩
        · exact Or.inr ⟨by simp [isDyG], _, #[], rfl, enters_of Tryd.func33 (by kernel_rfl) rfl, fun w2 hb2 hL2 x y hx hy => times_any x y a d gTimes w2 hx hy hL2.over⟩
        · exact Or.inr ⟨by simp [isDyG], _, #[], rfl, enters_of Tryd.func34 (by kernel_rfl) rfl, fun w2 hb2 hL2 x y hx hy => divide_out x y a d gDiv w2 hx hy hL2.over hL2.divide⟩
        · exact Or.inr ⟨by simp [isDyG], _, #[], rfl, enters_of Tryd.func35 (by kernel_rfl) rfl, fun w2 hb2 hL2 x y hx hy => residue_any x y w2⟩
        · exact Or.inr ⟨by simp [isDyG], _, #[], rfl, enters_of Tryd.func36 (by kernel_rfl) rfl, fun w2 hb2 hL2 x y hx hy => hi_any x y w2⟩
        · exact Or.inr ⟨by simp [isDyG], _, #[], rfl, enters_of Tryd.func37 (by kernel_rfl) rfl, fun w2 hb2 hL2 x y hx hy => lo_any x y w2⟩
      · have h8 := h7
        simp only [not_or] at h8
        refine Or.inl ⟨fun h => ?_, by simp [look7, h8]⟩
        unfold isDyG at h
        simp [h8, hl, hc] at h

set_option maxRecDepth 100000 in
set_option maxHeartbeats 4000000 in
theorem dy_any (g : ByteArray) (hg : g.size ≤ maxLen) (x y : Int) (a d : Addr) (w : World) (hx : fits x = true) (hy : fits y = true) (h : Laid10 a d w) :
    Calls Tryd.prog 10 #[.string g, .int .i64 x, .int .i64 y] w fun r w' => r = .returned (.tuple #[.int .i64 (dyOut g x y).1, .int .i64 (dyOut g x y).2]) ∧ Below w.heap.size w w' := by
  have D := Lib.hid (dyads_has a d w)
  have F := Lib.hid (fun (u : World) => h.below (w' := u))
  have hk := Tryd.underlying9
  have ht := Tryd.underlying35
  have hz : ∀ u : World, (zeroValue 33).run Tryd.prog u = .ok .nilFunc u := fun u => by kernel_rfl
  have T := Lib.hid (fun (c : Int) (u : World) (hc : Code c) (h : Laid10 a d u) => told_any a d g c u hc h)
  have C := Lib.hid (dyOut_code g x y)
  have N := Lib.hid (fun hn => dyOut_none (g := g) hn x y)
  have T2 := Lib.hid (fun (u : World) (h : Laid10 a d u) => told_domain a d g u h)
  clear h
  go_enter Tryd.func10, Tryd.ntmps10
  go_wp2_with fail
  refine D.out.mono ?_
  rintro r w1 ⟨rfl, hb, look, hm, hlook⟩
  have hl := hm.get true hk ht (hz w1) g hg
  have L1 := F.out _ hb
  rcases hlook g with ⟨hn, e⟩ | ⟨hn, f, cap, e, hE, hdo⟩
  · rw [e] at hl
    simp only [Option.getD_none, Option.isSome_none, if_true] at hl
    have eN := Lib.hid (N.out hn)
    have T3 := Lib.hid (T2.out _ L1)
    have B1 := Lib.hid hb
    clear hb hm hlook e D F T C N T2 L1
    go_wp2_with fail
    refine T3.out.mono ?_
    rintro r w2 ⟨rfl, hb2⟩
    go_wp2_with fail
    go_ret2
    rw [eN.out]
    exact ⟨rfl, B1.out.trans (hb2.mono B1.out.size)⟩
  · rw [e] at hl
    simp only [Option.getD_some, Option.isSome_some, if_true] at hl
    have B1 := Lib.hid hb
    have K := Lib.hid (hdo w1 (Below.refl _ _) L1 x y hx hy)
    have T3 := Lib.hid (fun (u : World) (hu : Below w1.heap.size w1 u) => T.out _ u C.out (L1.below hu))
    clear hb hm hlook e D F T C N T2 L1 hdo
    go_wp2_with fail
    rw [hE]
    refine K.out.mono ?_
    rintro r w2 ⟨rfl, hb2⟩
    have T4 := Lib.hid (T3.out _ hb2)
    go_wp2_with fail
    refine T4.out.mono ?_
    rintro r w3 ⟨rfl, hb3⟩
    go_wp2_with fail
    go_ret2
    exact ⟨rfl, B1.out.trans ((hb2.trans (hb3.mono hb2.size)).mono B1.out.size)⟩

set_option maxRecDepth 100000 in
set_option maxHeartbeats 4000000 in
theorem isDy_any (g : ByteArray) (hg : g.size ≤ maxLen) (w : World) [Decidable (isDyG g)] :
    Calls Tryd.prog 16 #[.string g] w fun r w' => r = .returned (.bool (decide (isDyG g))) ∧ Below w.heap.size w w' := by
  have D := Lib.hid (dyads_has ⟨0, 0, none⟩ ⟨0, 0, none⟩ w)
  have hk := Tryd.underlying9
  have ht := Tryd.underlying35
  have hz : ∀ u : World, (zeroValue 33).run Tryd.prog u = .ok .nilFunc u := fun u => by kernel_rfl
  have n1 : ∀ u : World, Sem.run Tryd.prog (binOp BinOp.neq 33 Value.nilFunc Value.nilFunc) u = .ok (.bool false) u := fun u => by kernel_rfl
  have n2 : ∀ (fn : Fn) (first captured : Array Value) (u : World), Sem.run Tryd.prog (binOp BinOp.neq 33 (Value.func fn first captured) Value.nilFunc) u = .ok (.bool true) u := fun fn first captured u => by kernel_rfl
  go_enter Tryd.func16, Tryd.ntmps16
  go_wp2_with fail
  refine D.out.mono ?_
  rintro r w1 ⟨rfl, hb, look, hm, hlook⟩
  have hl := hm.get false hk ht (hz w1) g hg
  rcases hlook g with ⟨hn, e⟩ | ⟨hn, f, cap, e, _, _⟩
  · rw [e] at hl
    simp only [Option.getD_none, Bool.false_eq_true, if_false] at hl
    have B1 := Lib.hid hb
    clear hb hm hlook e D
    go_wp2_with fail
    go_ret
    exact ⟨by simp [hn], B1.out⟩
  · rw [e] at hl
    simp only [Option.getD_some, Bool.false_eq_true, if_false] at hl
    have B1 := Lib.hid hb
    clear hb hm hlook e D
    go_wp2_with fail
    go_ret
    exact ⟨by simp [hn], B1.out⟩
end Go.Proofs.YtkghmcfbhojbaaaDoor
