/-
  A slice of lines appended to a row of lines of one's own; a run of it in memory.
-/
import Derived.Test.YtflpihedhccdfaaGreatDoorProg
import Derived.Test.YtflpihedhccdfaaGreatDoorReg
import Derived.WalkKit
import Derived.WalkSpells
import Derived.WalkLawsBesides
import Derived.Lib.Hide
import Derived.Lib.MinMax
import Derived.Deep.QuietTactic
import Derived.BigQuiet
import Derived.OwnWalk
import Derived.Deep.AppendLies
import Derived.KernelRfl
import Derived.ArgAppend
import Derived.Laws.OwnMore
import Derived.Test.YtflpihedhccdfaaGreatDoorRxD
set_option linter.unusedSimpArgs false
set_option linter.unusedVariables false
namespace Go.Proofs.YtflpihedhccdfaaGreatDoor
open Go Go.RowKit

theorem lnCells_one' (l : List Ln) : ∀ u ∈ lnCells l, u.oneCell' = true := by
  intro u hu
  simp only [lnCells, List.mem_flatMap, Ln.cells] at hu
  obtain ⟨x, _, hx⟩ := hu
  simp at hx
  rcases hx with rfl | rfl <;> rfl
theorem holdsL_cells {w : World} {b off : Nat} {l : List Ln} (h : HoldsL w (some ⟨b, off, none⟩) l) (j : Nat) (u : Value) (hj : (lnCells l)[j]? = some u) : w.cell? ((⟨b, off, none⟩ : Addr).add j) = some u := by
  have hlt : j < l.length * 2 := by rw [← lnCells_length]; exact (List.getElem?_eq_some_iff.1 hj).1
  have hk : j / 2 < l.length := by omega
  obtain ⟨b', off', e, c1, c2⟩ := h (j / 2) _ (List.getElem?_eq_getElem hk)
  cases e
  obtain ⟨t1, t2⟩ := lnCells_get l (j / 2) _ (List.getElem?_eq_getElem hk)
  rw [Addr.add_lit]
  have h3 : j = j / 2 * 2 ∨ j = j / 2 * 2 + 1 := by omega
  rcases h3 with e | e
  · rw [e] at hj ⊢
    rw [t1] at hj
    cases hj
    exact c1
  · rw [e] at hj ⊢
    rw [t2] at hj
    cases hj
    exact c2
theorem run_append_lns (base : Nat) (w : World) (i : TypeInfo) (z : Value) (hi : Tryz.prog.info? 75 = some i) (hz : i.zero = some z) (hsize : i.size = 2) (hby : i.bytes = 40) (hzs : z.cells.size = 2)
    (v : Value) (n : Nat) (xs : List Value) (hown : w.ownsRow base 75 2 v n xs) (B : Option Addr) (d : Nat) (m : List Ln) (hm : HoldsL w B m) (h1 : n ≤ 10000) (h2 : m.length ≤ 10000) (hbase : base ≤ w.heap.size) :
    ∃ v' w', (Builtin.append_ #[59, 59] 59 #[v, .slice B m.length d]).run Tryz.prog w = .ok v' w' ∧ w'.ownsRow base 75 2 v' (n + m.length) (xs ++ lnCells m) ∧ w.grownBy w' v.ownBlock := by
  cases B with
  | none =>
    have hn : m = [] := by
      cases m with
      | nil => rfl
      | cons x m =>
        obtain ⟨b, off, e, _⟩ := hm 0 x rfl
        cases e
    subst hn
    have ht := Tryz.underlying59
    have h : (Builtin.append_ #[59, 59] 59 #[v, .slice none 0 d]).run Tryz.prog w = .ok v w := by
      rcases hown.2 with ⟨rfl, rfl⟩ | ⟨g, cap, cur, rfl, _, _, hnc, _⟩
      · simp [Builtin.append_, run_underlying ht, sizeOf, typeInfo, hi, Builtin.lenOf, Builtin.firstCells, loadCells, loadCellsFrom]
      · simp [Builtin.append_, run_underlying ht, sizeOf, typeInfo, hi, Builtin.lenOf, Builtin.firstCells, hnc, storeCells, loadCells, loadCellsFrom]
    exact ⟨v, w, h, by simpa [lnCells] using hown, ⟨rfl, rfl, rfl, Nat.le_refl _, fun _ _ _ => rfl⟩⟩
  | some ad =>
    have hnews : ∀ j u, (lnCells m)[j]? = some u → w.cell? (ad.add j) = some u := fun j u hj => by
      have hlt : 0 < m.length := by
        have := (List.getElem?_eq_some_iff.1 hj).1
        rw [lnCells_length] at this
        omega
      obtain ⟨b, off, e, _⟩ := hm 0 _ (List.getElem?_eq_getElem hlt)
      cases e
      exact holdsL_cells hm j u hj
    obtain ⟨v', w', r1, r2, r3, _⟩ := run_append_own (P := Tryz.prog) w base 59 59 75 i z 2 40 Tryz.underlying59 hi hz hsize hby hzs (by decide) v n xs hown ad m.length d (lnCells m) (lnCells_length m) hnews (lnCells_one' m) (by unfold maxLen; omega) (by omega) hbase
    exact ⟨v', w', r1, r2, r3⟩

theorem wpList_append_lns {ops : Array Oper} {rest : List Oper} {o : Oper} {a : Act} {Q : Exit → Act → World → Prop} {w : World} (hgd : o.guard = none) (s x : Operand)
    (ho : o.op = .call { callee := .builtin .append, args := #[s, x], argTypes := #[59, 59] }) (hot : o.type = 59) (i : TypeInfo) (z : Value) (hi : Tryz.prog.info? 75 = some i) (hz : i.zero = some z) (hsize : i.size = 2) (hby : i.bytes = 40) (hzs : z.cells.size = 2)
    (base : Nat) (v : Value) (n : Nat) (xs : List Value) (hs : a.eval s = v) (hown : w.ownsRow base 75 2 v n xs) (B : Option Addr) (d : Nat) (m : List Ln) (hx : a.eval x = .slice B m.length d) (hm : HoldsL w B m) (h1 : n ≤ 10000) (h2 : m.length ≤ 10000) (hbase : base ≤ w.heap.size)
    (h : ∀ v' w', w'.ownsRow base 75 2 v' (n + m.length) (xs ++ lnCells m) → w.grownBy w' v.ownBlock → wpList Tryz.prog ops Q rest (a.put o.dst v') w') : wpList Tryz.prog ops Q (o :: rest) a w := by
  refine wpList_plain hgd fun K hK => ?_
  obtain ⟨v', w', hr, h3, h4⟩ := run_append_lns base w i z hi hz hsize hby hzs v n xs hown B d m hm h1 h2 hbase
  unfold Oper.wp execOp
  simp only [ho, hot, resolve, invoke, builtin, Sem.run_bind, Sem.run_pure, Result.andThen_ok, List.map_toArray, List.map_cons, List.map_nil, hs, hx, hr]
  exact hK _ _ (h v' w' h3 h4)
end Go.Proofs.YtflpihedhccdfaaGreatDoor
