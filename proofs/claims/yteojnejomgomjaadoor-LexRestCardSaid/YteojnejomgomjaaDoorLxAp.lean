/-
  A slice of tokens appended to a row of tokens of one's own.
-/
import Derived.Test.YteojnejomgomjaaDoorProg
import Derived.Test.YteojnejomgomjaaDoorReg
import Derived.WalkKit
import Derived.WalkSpells
import Derived.WalkLawsBesides
import Derived.Lib.Hide
import Derived.Lib.MinMax
import Derived.Deep.QuietTactic
import Derived.BigQuiet
import Derived.OwnWalk
import Derived.Deep.AppendLies
import Derived.KernelRfl
import Derived.ArgAppend
import Derived.Laws.OwnMore
import Derived.Test.YteojnejomgomjaaDoorLxLn
set_option linter.unusedSimpArgs false
set_option linter.unusedVariables false
namespace Go.Proofs.YteojnejomgomjaaDoor
open Go Go.RowKit

theorem tokCells_one' (l : List Tok) : ∀ u ∈ tokCells l, u.oneCell' = true := by
  intro u hu
  simp only [tokCells, List.mem_flatMap, Tok.cells] at hu
  obtain ⟨x, _, hx⟩ := hu
  simp at hx
  rcases hx with rfl | rfl | rfl <;> rfl
theorem holdsT_cells {w : World} {b off : Nat} {l : List Tok} (h : HoldsT w (some ⟨b, off, none⟩) l) (j : Nat) (u : Value) (hj : (tokCells l)[j]? = some u) : w.cell? ((⟨b, off, none⟩ : Addr).add j) = some u := by
  have hlt : j < l.length * 3 := by rw [← tokCells_length]; exact (List.getElem?_eq_some_iff.1 hj).1
  have hk : j / 3 < l.length := by omega
  obtain ⟨b', off', e, c1, c2, c3⟩ := h (j / 3) _ (List.getElem?_eq_getElem hk)
  cases e
  obtain ⟨t1, t2, t3⟩ := tokCells_get l (j / 3) _ (List.getElem?_eq_getElem hk)
  rw [Addr.add_lit]
  have h3 : j = j / 3 * 3 ∨ j = j / 3 * 3 + 1 ∨ j = j / 3 * 3 + 2 := by omega
  rcases h3 with e | e | e
  · rw [e] at hj ⊢
    rw [t1] at hj
    cases hj
    exact c1
  · rw [e] at hj ⊢
    rw [t2] at hj
    cases hj
    exact c2
  · rw [e] at hj ⊢
    rw [t3] at hj
    cases hj
    exact c3
theorem run_append_toks (base : Nat) (w : World) (i : TypeInfo) (z : Value) (hi : Tryd.prog.info? 27 = some i) (hz : i.zero = some z) (hsize : i.size = 3) (hby : i.bytes = 40) (hzs : z.cells.size = 3)
    (v : Value) (n : Nat) (xs : List Value) (hown : w.ownsRow base 27 3 v n xs) (B : Option Addr) (d : Nat) (m : List Tok) (hm : HoldsT w B m) (h1 : n ≤ 10000) (h2 : m.length ≤ 10000) (hbase : base ≤ w.heap.size) :
    ∃ v' w', (Builtin.append_ #[23, 23] 23 #[v, .slice B m.length d]).run Tryd.prog w = .ok v' w' ∧ w'.ownsRow base 27 3 v' (n + m.length) (xs ++ tokCells m) ∧ w.grownBy w' v.ownBlock := by
  cases B with
  | none =>
    have hn : m = [] := by
      cases m with
      | nil => rfl
      | cons x m =>
        obtain ⟨b, off, e, _⟩ := hm 0 x rfl
        cases e
    subst hn
    have ht := Tryd.underlying23
    have h : (Builtin.append_ #[23, 23] 23 #[v, .slice none 0 d]).run Tryd.prog w = .ok v w := by
      rcases hown.2 with ⟨rfl, rfl⟩ | ⟨g, cap, cur, rfl, _, _, hnc, _⟩
      · simp [Builtin.append_, run_underlying ht, sizeOf, typeInfo, hi, Builtin.lenOf, Builtin.firstCells, loadCells, loadCellsFrom]
      · simp [Builtin.append_, run_underlying ht, sizeOf, typeInfo, hi, Builtin.lenOf, Builtin.firstCells, hnc, storeCells, loadCells, loadCellsFrom]
    exact ⟨v, w, h, by simpa [tokCells] using hown, ⟨rfl, rfl, rfl, Nat.le_refl _, fun _ _ _ => rfl⟩⟩
  | some ad =>
    have hnews : ∀ j u, (tokCells m)[j]? = some u → w.cell? (ad.add j) = some u := fun j u hj => by
      have hlt : 0 < m.length := by
        have := (List.getElem?_eq_some_iff.1 hj).1
        rw [tokCells_length] at this
        omega
      obtain ⟨b, off, e, _⟩ := hm 0 _ (List.getElem?_eq_getElem hlt)
      cases e
      exact holdsT_cells hm j u hj
    obtain ⟨v', w', r1, r2, r3, _⟩ := run_append_own (P := Tryd.prog) w base 23 23 27 i z 3 40 Tryd.underlying23 hi hz hsize hby hzs (by decide) v n xs hown ad m.length d (tokCells m) (tokCells_length m) hnews (tokCells_one' m) (by unfold maxLen; omega) (by omega) hbase
    exact ⟨v', w', r1, r2, r3⟩

theorem wpList_append_toks {ops : Array Oper} {rest : List Oper} {o : Oper} {a : Act} {Q : Exit → Act → World → Prop} {w : World} (hgd : o.guard = none) (s x : Operand)
    (ho : o.op = .call { callee := .builtin .append, args := #[s, x], argTypes := #[23, 23] }) (hot : o.type = 23) (i : TypeInfo) (z : Value) (hi : Tryd.prog.info? 27 = some i) (hz : i.zero = some z) (hsize : i.size = 3) (hby : i.bytes = 40) (hzs : z.cells.size = 3)
    (base : Nat) (v : Value) (n : Nat) (xs : List Value) (hs : a.eval s = v) (hown : w.ownsRow base 27 3 v n xs) (B : Option Addr) (d : Nat) (m : List Tok) (hx : a.eval x = .slice B m.length d) (hm : HoldsT w B m) (h1 : n ≤ 10000) (h2 : m.length ≤ 10000) (hbase : base ≤ w.heap.size)
    (h : ∀ v' w', w'.ownsRow base 27 3 v' (n + m.length) (xs ++ tokCells m) → w.grownBy w' v.ownBlock → wpList Tryd.prog ops Q rest (a.put o.dst v') w') : wpList Tryd.prog ops Q (o :: rest) a w := by
  refine wpList_plain hgd fun K hK => ?_
  obtain ⟨v', w', hr, h3, h4⟩ := run_append_toks base w i z hi hz hsize hby hzs v n xs hown B d m hm h1 h2 hbase
  unfold Oper.wp execOp
  simp only [ho, hot, resolve, invoke, builtin, Sem.run_bind, Sem.run_pure, Result.andThen_ok, List.map_toArray, List.map_cons, List.map_nil, hs, hx, hr]
  exact hK _ _ (h v' w' h3 h4)
end Go.Proofs.YteojnejomgomjaaDoor
