/-
  Lists of texts: rows of one's own, what is appended to them.
-/
import Derived.Test.YtjlehlkkgkplmaaDoorProg
import Derived.Test.YtjlehlkkgkplmaaDoorReg
import Derived.WalkKit
import Derived.WalkSpells
import Derived.WalkLawsBesides
import Derived.Lib.Hide
import Derived.Lib.MinMax
import Derived.Deep.QuietTactic
import Derived.BigQuiet
import Derived.OwnWalk
import Derived.Deep.AppendLies
import Derived.KernelRfl
import Derived.ArgAppend
import Derived.Laws.OwnMore
import Derived.Deep.OwnRows
import Derived.Maps.AppendAt
import Derived.Test.YtjlehlkkgkplmaaDoorFrX
set_option linter.unusedSimpArgs false
set_option linter.unusedVariables false
namespace Go.Proofs.YtjlehlkkgkplmaaDoor
open Go Go.RowKit Go.Maps

abbrev sK : TypeId := 9
theorem infoStr : (Tryd.prog.info? 9).map (fun i => (i.zero, i.size, i.bytes)) = some (some (.string ByteArray.empty), 1, 16) := by kernel_rfl
def strCells (l : List ByteArray) : List Value := l.map Value.string
theorem strCells_length (l : List ByteArray) : (strCells l).length = l.length := by simp [strCells]
theorem strCells_append (l m : List ByteArray) : strCells (l ++ m) = strCells l ++ strCells m := by simp [strCells]
theorem strCells_get (l : List ByteArray) (k : Nat) (x : ByteArray) (h : l[k]? = some x) : (strCells l)[k]? = some (.string x) := by simp [strCells, h]
theorem strCells_one' (l : List ByteArray) : ∀ u ∈ strCells l, u.oneCell' = true := by
  intro u hu
  simp only [strCells, List.mem_map] at hu
  obtain ⟨x, _, rfl⟩ := hu
  rfl
theorem holdsS_of_own {w : World} {base : Nat} {e : TypeId} {v : Value} {n : Nat} {l : List ByteArray} (h : w.ownsRow base e 1 v n (strCells l)) :
    ∃ A c, v = .slice A l.length c ∧ n = l.length ∧ HoldsS w A l ∧ l.length ≤ c := by
  have hn : n = l.length := by have h1 := h.1; rw [strCells_length] at h1; omega
  subst hn
  rcases h.2 with ⟨rfl, h0⟩ | ⟨g, cap, cur, rfl, _, _, hcap, _⟩
  · have : l = [] := List.eq_nil_of_length_eq_zero h0
    subst this
    exact ⟨none, 0, rfl, rfl, HoldsS.nil _ _, Nat.le_refl _⟩
  · refine ⟨some ⟨g, 0, none⟩, cap, rfl, rfl, fun k x hx => ?_, hcap⟩
    have hc := h.cells (g := g) rfl
    have h1 := strCells_get l k x hx
    have c1 := hc _ _ h1
    have ea : ∀ j, (⟨g, 0, none⟩ : Addr).add j = ⟨g, 0 + j, none⟩ := fun j => by
      unfold Addr.add
      split
      · rename_i h; subst h; rfl
      · rfl
    rw [ea] at c1
    exact ⟨g, 0, rfl, c1⟩
/-- A text is appended. -/
theorem push_str {W : World} {base : Nat} {v : Value} {l : List ByteArray} {x : ByteArray} {g : Nat} (hg : W.heap[g]? = some (.cells #[.string x] sK (0, 0))) (hown : W.ownsRow base sK 1 v l.length (strCells l)) (hl : l.length ≤ 1000000) (hbase : base ≤ W.heap.size) :
    ∃ A c w', (Builtin.append_ #[27, 27] 27 #[v, .slice (some ⟨g, 0, none⟩) 1 1]).run Tryd.prog W = .ok (.slice A (l.length + 1) c) w' ∧ w'.ownsRow base sK 1 (.slice A (l.length + 1) c) (l ++ [x]).length (strCells (l ++ [x])) ∧ W.grownBy w' v.ownBlock ∧ ((Value.slice A (l.length + 1) c).ownBlock = v.ownBlock ∨ (Value.slice A (l.length + 1) c).ownBlock = some W.heap.size) := by
  obtain ⟨i0, hi0, hz0, hz1, hz2⟩ := info_parts infoStr
  obtain ⟨v', w', hr, ho, hgr, _, hat⟩ := run_append_own_at (P := Tryd.prog) W base 27 27 sK i0 _ 1 16 Tryd.underlying27 hi0 hz0 hz1 hz2 rfl (by decide) v l.length (strCells l) hown ⟨g, 0, none⟩ 1 1 [.string x] rfl
    (World.news_of_block (cs := #[.string x]) (t := sK) (fr := (0, 0)) hg) (by simp [Value.oneCell']) (by unfold maxLen; omega) (by omega) hbase
  have e : strCells (l ++ [x]) = strCells l ++ [.string x] := strCells_append l [x]
  rw [← e] at ho
  have ho2 : w'.ownsRow base sK 1 v' (l ++ [x]).length (strCells (l ++ [x])) := by rw [List.length_append]; exact ho
  obtain ⟨A, c, rfl, _, _, _⟩ := holdsS_of_own ho2
  rw [List.length_append, List.length_singleton] at hr ho2 hat
  exact ⟨A, c, w', hr, by rw [List.length_append, List.length_singleton]; exact ho2, hgr, hat⟩
theorem holdsS_cells {w : World} {b off : Nat} {l : List ByteArray} (h : HoldsS w (some ⟨b, off, none⟩) l) (j : Nat) (u : Value) (hj : (strCells l)[j]? = some u) : w.cell? ((⟨b, off, none⟩ : Addr).add j) = some u := by
  have hlt : j < l.length := by rw [← strCells_length]; exact (List.getElem?_eq_some_iff.1 hj).1
  obtain ⟨b', off', e, c1⟩ := h j _ (List.getElem?_eq_getElem hlt)
  cases e
  rw [Addr.add_lit]
  rw [strCells_get l j _ (List.getElem?_eq_getElem hlt)] at hj
  cases hj
  exact c1
/-- A slice of texts is appended. -/
theorem run_append_strs (base : Nat) (w : World) (v : Value) (n : Nat) (xs : List Value) (hown : w.ownsRow base sK 1 v n xs) (B : Option Addr) (d : Nat) (m : List ByteArray) (hm : HoldsS w B m) (h1 : n ≤ 1000000) (h2 : m.length ≤ 1000000) (hbase : base ≤ w.heap.size) :
    ∃ v' w', (Builtin.append_ #[27, 27] 27 #[v, .slice B m.length d]).run Tryd.prog w = .ok v' w' ∧ w'.ownsRow base sK 1 v' (n + m.length) (xs ++ strCells m) ∧ w.grownBy w' v.ownBlock := by
  obtain ⟨i, hi, hz, hsize, hby⟩ := info_parts infoStr
  cases B with
  | none =>
    have hn : m = [] := by
      cases m with
      | nil => rfl
      | cons x m =>
        obtain ⟨b, off, e, _⟩ := hm 0 x rfl
        cases e
    subst hn
    have ht := Tryd.underlying27
    have h : (Builtin.append_ #[27, 27] 27 #[v, .slice none 0 d]).run Tryd.prog w = .ok v w := by
      rcases hown.2 with ⟨rfl, rfl⟩ | ⟨g, cap, cur, rfl, _, _, hnc, _⟩
      · simp [Builtin.append_, run_underlying ht, sizeOf, typeInfo, hi, Builtin.lenOf, Builtin.firstCells, loadCells, loadCellsFrom]
      · simp [Builtin.append_, run_underlying ht, sizeOf, typeInfo, hi, Builtin.lenOf, Builtin.firstCells, hnc, storeCells, loadCells, loadCellsFrom]
    exact ⟨v, w, h, by simpa [strCells] using hown, ⟨rfl, rfl, rfl, Nat.le_refl _, fun _ _ _ => rfl⟩⟩
  | some ad =>
    have hnews : ∀ j u, (strCells m)[j]? = some u → w.cell? (ad.add j) = some u := fun j u hj => by
      have hlt : 0 < m.length := by
        have := (List.getElem?_eq_some_iff.1 hj).1
        rw [strCells_length] at this
        omega
      obtain ⟨b, off, e, _⟩ := hm 0 _ (List.getElem?_eq_getElem hlt)
      cases e
      exact holdsS_cells hm j u hj
    obtain ⟨v', w', r1, r2, r3, _⟩ := run_append_own (P := Tryd.prog) w base 27 27 sK i _ 1 16 Tryd.underlying27 hi hz hsize hby rfl (by decide) v n xs hown ad m.length d (strCells m) (by rw [strCells_length]; omega) hnews (strCells_one' m) (by unfold maxLen; omega) (by omega) hbase
    exact ⟨v', w', r1, r2, r3⟩
theorem wpList_append_strs {ops : Array Oper} {rest : List Oper} {o : Oper} {a : Act} {Q : Exit → Act → World → Prop} {w : World} (hgd : o.guard = none) (s x : Operand)
    (ho : o.op = .call { callee := .builtin .append, args := #[s, x], argTypes := #[27, 27] }) (hot : o.type = 27)
    (base : Nat) (v : Value) (n : Nat) (xs : List Value) (hs : a.eval s = v) (hown : w.ownsRow base sK 1 v n xs) (B : Option Addr) (d : Nat) (m : List ByteArray) (hx : a.eval x = .slice B m.length d) (hm : HoldsS w B m) (h1 : n ≤ 1000000) (h2 : m.length ≤ 1000000) (hbase : base ≤ w.heap.size)
    (h : ∀ v' w', w'.ownsRow base sK 1 v' (n + m.length) (xs ++ strCells m) → w.grownBy w' v.ownBlock → wpList Tryd.prog ops Q rest (a.put o.dst v') w') : wpList Tryd.prog ops Q (o :: rest) a w := by
  refine wpList_plain hgd fun K hK => ?_
  obtain ⟨v', w', hr, h3, h4⟩ := run_append_strs base w v n xs hown B d m hm h1 h2 hbase
  unfold Oper.wp execOp
  simp only [ho, hot, resolve, invoke, builtin, Sem.run_bind, Sem.run_pure, Result.andThen_ok, List.map_toArray, List.map_cons, List.map_nil, hs, hx, hr]
  exact hK _ _ (h v' w' h3 h4)
end Go.Proofs.YtjlehlkkgkplmaaDoor
