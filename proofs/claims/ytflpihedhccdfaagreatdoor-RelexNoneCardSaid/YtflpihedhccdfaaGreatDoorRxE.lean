/-
  Lines are lexed: by the program.
-/
import Derived.Test.YtflpihedhccdfaaGreatDoorProg
import Derived.Test.YtflpihedhccdfaaGreatDoorReg
import Derived.WalkKit
import Derived.WalkSpells
import Derived.WalkLawsBesides
import Derived.Lib.Hide
import Derived.Lib.MinMax
import Derived.Deep.QuietTactic
import Derived.BigQuiet
import Derived.OwnWalk
import Derived.Deep.AppendLies
import Derived.KernelRfl
import Derived.Laws.OwnMore
import Derived.Deep.OwnRows
import Derived.Test.YtflpihedhccdfaaGreatDoorBytes
import Derived.Test.YtflpihedhccdfaaGreatDoorRxB
import Derived.Test.YtflpihedhccdfaaGreatDoorLxM11
set_option linter.unusedSimpArgs false
set_option linter.unusedVariables false
namespace Go.Proofs.YtflpihedhccdfaaGreatDoor
open Go.RowKit Go.Maps

/-- The lines' tokens are theirs, in rows of their own. -/
def RightL (w : World) (l : List Ln) : Prop := ∀ x ∈ l, x.n = (dLine x.text).length ∧ ∃ base, w.ownsRow base 55 3 (.slice x.row x.n x.c) x.n (tokCells (dLine x.text))
theorem RightL.below {w w' : World} {l : List Ln} (h : RightL w l) (hb : Below w.heap.size w w') : RightL w' l := fun x hx => by
  obtain ⟨h1, base, h2⟩ := h x hx
  exact ⟨h1, base, own_below h2 hb⟩
/-- A block of another type may change. -/
theorem RightL.other {w w' : World} {l : List Ln} {q : Nat} {cs : Array Value} {t : TypeId} {fr : Nat × Nat} (h : RightL w l) (hg : w.grownBy w' (some q)) (hq : w.heap[q]? = some (.cells cs t fr)) (hne : t ≠ 55) : RightL w' l := fun x hx => by
  obtain ⟨h1, base, h2⟩ := h x hx
  exact ⟨h1, base, h2.kept hg (Or.inr (own_apart_cells h2 hq hne))⟩
theorem own_apart_own {w : World} {b b2 : Nat} {e t : TypeId} {s1 s2 : Nat} {v u : Value} {n m : Nat} {xs ys : List Value} (h : w.ownsRow b e s1 v n xs) (k : w.ownsRow b2 t s2 u m ys) (hne : t ≠ e) : v.ownBlock = none ∨ v.ownBlock ≠ u.ownBlock := by
  rcases k.2 with ⟨rfl, _⟩ | ⟨g, cap, cur, rfl, hg, hgg, _⟩
  · cases hv : v.ownBlock <;> simp [Value.ownBlock]
  · exact Or.inr (own_apart_cells h hgg hne)

set_option maxRecDepth 100000 in
set_option maxHeartbeats 8000000 in
theorem lex_any (X : Nat) (sl : Value) (q : Int) (B : Option Addr) (cB : Nat) (ss : List ByteArray) (w : World) (hs : ss.length ≤ 1000000) (hsz : ∀ s ∈ ss, s.size ≤ 1000000) (hq : 0 ≤ q ∧ q ≤ 1000000000)
    (hX : w.heap[X]? = some (.cells #[sl, .int .i64 q] 68 (0, 0))) (hB : HoldsS w B ss) (hT : Tabs w) :
    Calls Tryz.prog 27 #[.pointer (some ⟨X, 0, none⟩), .slice B ss.length cB] w fun e w' => ∃ v ls, e = .returned v ∧ ls.length = ss.length ∧ textsOf ls = ss ∧ w'.ownsRow w.heap.size 75 2 v ss.length (lnCells ls) ∧ RightL w' ls ∧
      w.grownBy w' (some X) ∧ w'.heap[X]? = some (.cells #[sl, .int .i64 (q + ss.length)] 68 (0, 0)) := by
  obtain ⟨i0, hi0, hz0, hz1, hz2⟩ := info_parts infoLine
  have lX : X < w.heap.size := (Array.getElem?_eq_some_iff.1 hX).1
  have HT := Lib.hid hT
  clear hT
  go_enter Tryz.func27, Tryz.ntmps27
  go_wp2_with fail
  go_loopw [5, 10] (fun v i wr => ∃ (k : Nat) (ls : List Ln), k ≤ ss.length ∧ i = .int .i64 k ∧ ls.length = k ∧ textsOf ls = ss.take k ∧ wr.ownsRow w.heap.size 75 2 v k (lnCells ls) ∧ RightL wr ls ∧ Below w.heap.size w wr) (fun _ i _ => ss.length - (intOf i).toNat)
  case atStart => exact ⟨0, [], by omega, rfl, rfl, by simp [textsOf], World.ownsRow_nil _ _ _ _, fun x hx => by simp at hx, Below.refl _ _⟩
  case round =>
    obtain ⟨k, ls, hk, rfl, hkl, htx, hown, hR, hlow⟩ := hrel
    by_cases hlt : k < ss.length
    · have hx := List.getElem?_eq_getElem hlt
      obtain ⟨b, off, rfl, c1⟩ := (hB.below hlow) k ss[k] hx
      have hxs := hsz _ (List.getElem_mem hlt)
      have htk : ss.take (k + 1) = ss.take k ++ [ss[k]] := take_one hx
      generalize ss[k] = x at *
      have hLn := Line_any x wr hxs (HT.out.below hlow)
      have HLn := Lib.hid hLn
      have hsw := hlow.size
      have HK := Lib.hid htk
      have HO := Lib.hid hown
      have HR := Lib.hid hR
      clear hLn htk hown hR hx
      go_wp2_with fail
      refine HLn.out.mono ?_
      rintro e w2 ⟨v2, rfl, ho2, hb2⟩
      obtain ⟨A2, c2, rfl, -, -, hc2⟩ := holdsT_of_own ho2
      have hO2 := own_below HO.out hb2
      have hR2 := HR.out.below hb2
      have hsw2 := hb2.size
      have HO2 := Lib.hid ho2
      clear ho2 HLn HO HR
      go_wp2_with (at_builtin; go_must (refine wpList_append_own _ rfl _ _ 59 rfl w.heap.size 75 i0 _ 2 40 Tryz.underlying59 hi0 hz0 hz1 hz2 rfl (by decide) u5 k _ rfl (hO2.alloc _) ⟨w2.heap.size, 0, none⟩ 1 1 [.string x, .slice A2 (dLine x).length c2] rfl rfl (World.news_of_block (cs := #[.string x, .slice A2 (dLine x).length c2]) (t := 75) (fr := (0, 0)) (heap_alloc_new w2 _)) (by simp [Value.oneCell']) (by unfold maxLen; omega) (by omega) (by simp; omega) ?_); go_must (intro v1 w3 hown3 hg3 _))
      go_roundw
      case rel =>
        have hbA : Below w2.heap.size w2 (w2.alloc (.cells #[.string x, .slice A2 (dLine x).length c2] 75)) := below_new w2 _
        refine ⟨k + 1, ls ++ [⟨x, A2, (dLine x).length, c2⟩], by omega, by go_num, by simp [hkl], ?_, ?_, ?_, (((hlow.trans (hb2.mono hsw)).alloc (by omega) _).grown hg3 (by simp; omega) (ownBlock_ge hO2))⟩
        · rw [HK.out, ← htx]; simp [textsOf]
        · rw [lnCells_append, lnCells_one]; exact hown3
        · have hkeep : ∀ base (y : Ln), w2.ownsRow base 55 3 (.slice y.row y.n y.c) y.n (tokCells (dLine y.text)) → w3.ownsRow base 55 3 (.slice y.row y.n y.c) y.n (tokCells (dLine y.text)) := fun base y hy => by
            exact (own_below hy hbA).kept hg3 (own_apart_own (own_below hy hbA) (own_below hO2 hbA) (by decide))
          intro y hy
          rcases List.mem_append.1 hy with hy | hy
          · obtain ⟨h1, base, h2⟩ := hR2 y hy
            exact ⟨h1, base, hkeep base y h2⟩
          · obtain rfl := List.mem_singleton.1 hy
            exact ⟨rfl, wr.heap.size, hkeep _ _ HO2.out⟩
      case measure => simp [intOf]; omega
    · obtain rfl : k = ss.length := by omega
      rw [List.take_length] at htx
      have hXr := (hlow.block X lX).trans hX
      have c1 : wr.cell? ⟨X, 1, none⟩ = some (.int .i64 q) := by simp [World.cell?, hXr]
      have z1 : wr.frozen? ⟨X, 1, none⟩ = false := frozen_of_row wr _ 1 _ _ hXr
      have hA := Add_any X 1 q ss.length wr c1 z1 (by omega) (by omega)
      have HA := Lib.hid hA
      obtain ⟨A5, c5, rfl⟩ := owns_slice hown
      have HO := Lib.hid hown
      have HR := Lib.hid hR
      have HXr := Lib.hid hXr
      clear hA hown hR hXr
      go_wp2_with fail
      refine HA.out.mono ?_
      rintro e w2 ⟨rfl, rfl⟩
      have hg2 := grown_setCell wr ⟨X, 1, none⟩ (.int .i64 (q + ss.length))
      have hO2 := HO.out.kept hg2 (Or.inr (own_apart_cells HO.out HXr.out (by decide)))
      have hR2 := HR.out.other hg2 HXr.out (by decide)
      have hX2 := heap_setCell_same wr X 1 _ _ (.int .i64 (q + ss.length)) HXr.out
      have hsw := hlow.size
      go_wp2_with fail
      go_ret
      refine ⟨_, ls, rfl, hkl, htx, hO2, hR2, ⟨hlow.os, hlow.tape, hlow.output, by simpa using hsw, fun j hj hne => ?_⟩, ?_⟩
      · exact (hg2.block j (by omega) hne).trans (hlow.block j hj)
      · rw [hX2]; simp
end Go.Proofs.YtflpihedhccdfaaGreatDoor
