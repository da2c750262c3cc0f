/-
  A stream split, a reader fed: by the program.
-/
import Derived.Test.YtjlehlkkgkplmabDoorProg
import Derived.Test.YtjlehlkkgkplmabDoorReg
import Derived.WalkKit
import Derived.WalkSpells
import Derived.WalkLawsBesides
import Derived.Lib.Hide
import Derived.Lib.MinMax
import Derived.Deep.QuietTactic
import Derived.BigQuiet
import Derived.OwnWalk
import Derived.Deep.AppendLies
import Derived.KernelRfl
import Derived.Test.YtjlehlkkgkplmabDoorFrE
import Derived.Test.YtjlehlkkgkplmabDoorFrJ
set_option linter.unusedSimpArgs false
set_option linter.unusedVariables false
namespace Go.Proofs.YtjlehlkkgkplmabDoor
open Go Go.RowKit

/-- The number that is told. -/
def numB (bad : Bool) : Int := if bad then 160 else 0
theorem told_any (a : Addr) (bad : Bool) (w : World) (h : ErrF a w) : Calls Tryd.prog 11 #[errVal a bad] w fun e w' => e = .returned (.int .i64 (numB bad)) ∧ w' = w := by
  cases bad with
  | true => exact told_frame a w h
  | false => exact told_none a w h

set_option maxRecDepth 100000 in
set_option maxHeartbeats 4000000 in
theorem Split_any (s : ByteArray) (a : Addr) (w : World) (hs : s.size ≤ 900000) (hL : LaidF a w) :
    Calls Tryd.prog 10 #[.string s] w fun e w' => ∃ v, e = .returned (.tuple #[v, .string (splitB s).2.1, .int .i64 (numB (splitB s).2.2)]) ∧
      w'.ownsRow (w.heap.size + 1) sK 1 v (splitB s).1.length (strCells (splitB s).1) ∧ Below w.heap.size w w' := by
  have hb0 := below_new w (.cells #[.string s, .nilIface] 39)
  have hx0 : IsLf (w.alloc (.cells #[.string s, .nilIface] 39)) w.heap.size 39 a s false := heap_alloc_new w _
  have hz0 : (w.alloc (.cells #[.string s, .nilIface] 39)).heap.size = w.heap.size + 1 := by simp
  have HBo := Lib.hid (bodies_any w.heap.size 39 a s _ hs hx0 (fun W hg => hL.below (hb0.grown hg (by omega) (fun k e => by cases e; exact Nat.le_refl _))))
  rw [hz0] at HBo
  generalize splitB s = P at *
  obtain ⟨bs, rest, bad⟩ := P
  have HB0 := Lib.hid hb0
  have HZ0 := Lib.hid hz0
  clear hx0 hb0 hz0
  go_enter Tryd.func10, Tryd.ntmps10
  go_wp2_with fail
  refine HBo.out.mono ?_
  rintro e w1 ⟨v, rfl, ho, hg, hx⟩
  have HB1 := Lib.hid (HB0.out.grown hg (by rw [HZ0.out]; omega) (fun k e => by cases e; exact Nat.le_refl _))
  have HTo := Lib.hid (fun W (hb : Below w1.heap.size w1 W) => told_any a bad W ((hL.below HB1.out).below hb).err)
  have k0 := hx.c0
  have k1 := hx.c1
  have lx := hx.lt
  have HO := Lib.hid ho
  clear ho hg hx HBo
  obtain ⟨A5, c5, rfl⟩ := owns_slice HO.out
  obtain ⟨ev, hev⟩ : ∃ ev, ev = errVal a bad := ⟨_, rfl⟩
  rw [← hev] at k1 HTo
  clear hev
  go_wp2_with fail
  refine wp_region_ord (S := fun w' => w'.cell? ⟨w.heap.size, 0, none⟩ = some (.string rest) ∧ w'.cell? ⟨w.heap.size, 1, none⟩ = some ev) [0, 1, 2, 3, 4, 5, 6, 7, 8] [9, 10, 11, 12] (by kernel_rfl) (by kernel_rfl) (fun _ _ _ _ _ h => h) ⟨k0, k1⟩ ?_
  simp only [pick, List.filterMap_cons, List.filterMap_nil, List.getElem?_toArray, List.getElem?_cons_zero, List.getElem?_cons_succ]
  repeat (refine wpHead_step (v := ?_) rfl ?_ ?_; rotate_left; (focus (rintro w1 ⟨d0, d1⟩; go_simp; try with_reducible rfl)); simp only [Act.put, List.setIfInBounds_toArray, List.set_cons_zero, List.set_cons_succ])
  refine wpHead_nil ?_
  refine wpTail_step rfl (fun K hK => ?_)
  go_wp2_with fail
  refine (HTo.out _ (Below.refl _ _).drew).mono ?_
  rintro e w2 ⟨rfl, rfl⟩
  refine hK _ _ ⟨k0, k1⟩ ?_
  clear hK K
  try simp only [Act.put, List.setIfInBounds_toArray, List.set_cons_zero, List.set_cons_succ]
  refine wpTail_step rfl (fun K hK => ?_)
  go_wp2_with fail
  refine hK _ _ ⟨k0, k1⟩ ?_
  clear hK K
  try simp only [Act.put, List.setIfInBounds_toArray, List.set_cons_zero, List.set_cons_succ]
  refine wpTail_step rfl (fun K hK => ?_)
  go_wp2_with fail
  refine hK _ _ ⟨k0, k1⟩ ?_
  clear hK K
  try simp only [Act.put, List.setIfInBounds_toArray, List.set_cons_zero, List.set_cons_succ]
  refine wpTail_step rfl (fun K hK => ?_)
  go_wp2_with fail
  refine hK _ _ ⟨k0, k1⟩ ?_
  clear hK K
  try simp only [Act.put, List.setIfInBounds_toArray, List.set_cons_zero, List.set_cons_succ]
  refine wpTail_nil ?_
  go_wp2_with fail
  refine bodyPost_ret (by simp [results, Tryd.results10, go_sem]; rfl) rfl ?_
  exact ⟨_, rfl, HO.out.drew, HB1.out.drew⟩
theorem below_grownX {K X : Nat} {w0 w W : World} (hB : Below K w0 w) (hg : w.grownBy W (some X)) (hK : K ≤ w.heap.size) (hX : K ≤ X) : Below K w0 W := hB.grown hg hK (fun k e => by cases e; exact hX)
set_option maxRecDepth 100000 in
set_option maxHeartbeats 4000000 in
theorem Feed_any (X : Nat) (a : Addr) (t s : ByteArray) (w0 w : World) (hz : t.size + s.size ≤ 900000) (h : IsRd w X a t false) (hL : LaidF a w0) (hB : Below w0.heap.size w0 w) (hX : w0.heap.size ≤ X) :
    Calls Tryd.prog 7 #[.pointer (some ⟨X, 0, none⟩), .string s] w fun e w' => ∃ v, e = .returned (.tuple #[v, .int .i64 (numB (splitB (t ++ s)).2.2)]) ∧
      w'.ownsRow w.heap.size sK 1 v (splitB (t ++ s)).1.length (strCells (splitB (t ++ s)).1) ∧ w.grownBy w' (some X) ∧ IsRd w' X a (splitB (t ++ s)).2.1 (splitB (t ++ s)).2.2 := by
  have hx : IsLf w X 41 a t false := h
  have k0 := hx.c0
  have k1 : w.cell? ⟨X, 1, none⟩ = some .nilIface := hx.c1
  have z0 := hx.z 0
  have lx := hx.lt
  have hx2 := hx.put (t ++ s)
  have hg2 := grown_set (grown_low X (Below.refl w.heap.size w)) 0 (.string (t ++ s))
  have hsz := ByteArray.size_append (a := t) (b := s)
  have hz2 : (w.setCell ⟨X, 0, none⟩ (.string (t ++ s))).heap.size = w.heap.size := by simp [World.setCell]
  have HBo := Lib.hid (bodies_any X 41 a (t ++ s) _ (by omega) hx2 (fun W hg => hL.below (below_grownX hB (grown_two hg2 hg) hB.size hX)))
  rw [hz2] at HBo
  generalize splitB (t ++ s) = P at *
  obtain ⟨bs, rest, bad⟩ := P
  have HG2 := Lib.hid hg2
  have nb : ¬ 9223372036854775807 < t.size + s.size := by omega
  have nb2 : ¬ (9223372036854775807 : Int) < (t.size : Int) + (s.size : Int) := by omega
  clear hx2 hg2 hz2 hsz h hx
  go_enter Tryd.func7, Tryd.ntmps7
  go_wp2_with fail
  refine HBo.out.mono ?_
  rintro e w1 ⟨v, rfl, ho, hg, hx⟩
  have HG1 := Lib.hid (grown_two HG2.out hg)
  have HTo := Lib.hid (told_any a bad w1 (hL.below (below_grownX hB HG1.out hB.size hX)).err)
  have k3 := hx.c0
  have k4 := hx.c1
  have lx := hx.lt
  have HO := Lib.hid ho
  have HX := Lib.hid hx
  clear ho hg hx HBo
  obtain ⟨A5, c5, rfl⟩ := owns_slice HO.out
  obtain ⟨ev, hev⟩ : ∃ ev, ev = errVal a bad := ⟨_, rfl⟩
  rw [← hev] at k4 HTo
  clear hev
  go_wp2_with fail
  refine HTo.out.mono ?_
  rintro e w2 ⟨rfl, rfl⟩
  go_wp2_with fail
  go_ret2
  exact ⟨_, rfl, HO.out, HG1.out, HX.out⟩
end Go.Proofs.YtjlehlkkgkplmabDoor
