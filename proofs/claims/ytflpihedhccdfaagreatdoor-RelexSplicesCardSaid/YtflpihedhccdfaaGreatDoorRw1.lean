/-
  errors.Is by its contracts, at the errors of layer 5 (Number's text, turned).
-/
import Derived.Test.YtflpihedhccdfaaGreatDoorProg
import Derived.Test.YtflpihedhccdfaaGreatDoorReg
import Derived.WalkKit
import Derived.WalkSpells
import Derived.WalkLawsBesides
import Derived.Lib.Hide
import Derived.Lib.MinMax
import Derived.Deep.QuietTactic
import Derived.BigQuiet
import Derived.OwnWalk
import Derived.Deep.AppendLies
import Derived.KernelRfl
import Derived.Test.YtflpihedhccdfaaGreatDoorReg
import Derived.LaidEql
import Derived.Stop.Asserts
import Derived.RowKitTokens
import Derived.Test.YtflpihedhccdfaaGreatDoorLxM2
import Derived.Lib.SplitLaws
import Derived.Lib.IndexLaws
import Derived.Lib.IndexBytes
import Derived.Test.YtflpihedhccdfaaGreatDoorLxM1
import Derived.Laws.OwnMore
import Derived.Test.YtflpihedhccdfaaGreatDoorLxM5
import Derived.Test.YtflpihedhccdfaaGreatDoorBytes
import Derived.Deep.OwnRows
import Derived.Deep.LoopGhost
import Derived.Lib.Bytealg
import Derived.Lib.CutLaws
import Derived.Laws.Strings3
set_option linter.unusedSimpArgs false
set_option linter.unusedVariables false
namespace Go.Proofs.YtflpihedhccdfaaGreatDoor
open Go.RowKit Go.Extern.Stop Go.Stop Go.Extern

theorem isTypeOf (v : Value) (w : World) : (Extern.ReflectliteType.typeOf #[.iface 226 v]).run Tryz.prog w = .ok (.iface 126 (.agg #[.pointer (some ⟨5, 226, none⟩)])) w := by kernel_rfl
theorem isComparable (w : World) : (callFunc 169 #[.agg #[.pointer (some ⟨5, 226, none⟩)]]).run Tryz.prog w = .ok (.value (.bool true)) w := by kernel_rfl
theorem isMethodComparable (v : Value) (w : World) : (Go.method 359 126 v "Comparable").run Tryz.prog w = .ok (169, v) w := by kernel_rfl
theorem isComp : (Tryz.prog.info? 226).map (·.comparable) = some true := by kernel_rfl
theorem isSize : (Tryz.prog.info? 248).map (·.size) = some 1 := by kernel_rfl
theorem noIsE (v : Value) (xT : TypeId) (w : World) : (Instr.typeAssert (.iface 226 v) xT 128 true).run Tryz.prog w = .ok (.tuple #[.nilIface, .bool false]) w := run_typeAssert_lacksB Tryz.underlying128 (by kernel_rfl) (by kernel_rfl) v xT w
theorem noUnwrapE (v : Value) (xT : TypeId) (w : World) : (Instr.typeAssert (.iface 226 v) xT 131 true).run Tryz.prog w = .ok (.tuple #[.nilIface, .bool false]) w := run_typeAssert_lacksB Tryz.underlying131 (by kernel_rfl) (by kernel_rfl) v xT w
theorem noUnwrapsE (v : Value) (xT : TypeId) (w : World) : (Instr.typeAssert (.iface 226 v) xT 133 true).run Tryz.prog w = .ok (.tuple #[.nilIface, .bool false]) w := run_typeAssert_lacksB Tryz.underlying133 (by kernel_rfl) (by kernel_rfl) v xT w

set_option maxRecDepth 100000 in
set_option maxHeartbeats 1000000 in
/-- errors.Is(x, x), x a pointer to an errors.errorString. -/
theorem is_same (a : Addr) (w : World) :
    Calls Tryz.prog 37 #[.iface 226 (.pointer (some a)), .iface 226 (.pointer (some a))] w fun e w' => e = .returned (.bool true) ∧ w' = w := by
  obtain ⟨i, hi, hcmp⟩ := Option.map_eq_some_iff.1 isComp
  obtain ⟨j, hj, hjs⟩ := Option.map_eq_some_iff.1 isSize
  have h8 := @run_callFunc_extern Tryz.prog 54 _ Extern.ReflectliteType.typeOf Tryz.func54 (by kernel_rfl) (by kernel_rfl) (by kernel_rfl) (by kernel_rfl)
  have tT := isTypeOf
  have cT := isComparable
  have mR := isMethodComparable
  have heq := run_eql_iface_ptr_same (P := Tryz.prog) w a Tryz.underlying58 Tryz.underlying226 hi hcmp hj
  go_enter Tryz.func37, Tryz.ntmps37
  go_wp2
  refine wp_loop_rounds 1 ?_
  rw [rounds_succ]
  go_wp2
  go_ret
  exact ⟨rfl, rfl⟩

set_option maxRecDepth 100000 in
/-- errors.Is(nil, x). -/
theorem is_nil (b : Addr) (w : World) :
    Calls Tryz.prog 37 #[.nilIface, .iface 226 (.pointer (some b))] w fun e w' => e = .returned (.bool false) ∧ w' = w := by
  have hn := run_eql_iface_nil_left (P := Tryz.prog) w 226 (.pointer (some b)) Tryz.underlying58
  go_enter Tryz.func37, Tryz.ntmps37
  go_wp2
  go_ret
  exact ⟨rfl, rfl⟩

set_option maxRecDepth 100000 in
set_option maxHeartbeats 1000000 in
/-- errors.Is(x, y), two different pointers. -/
theorem is_other (a b : Addr) (ca cb : Array Value) (ta tb : TypeId) (w : World) (hne : a ≠ b) (ha : w.heap[a.block]? = some (.cells ca ta (0, 0))) (hb : w.heap[b.block]? = some (.cells cb tb (0, 0))) :
    Calls Tryz.prog 37 #[.iface 226 (.pointer (some a)), .iface 226 (.pointer (some b))] w fun e w' => e = .returned (.bool false) ∧ w' = w := by
  obtain ⟨i, hi, hcmp⟩ := Option.map_eq_some_iff.1 isComp
  obtain ⟨j, hj, hjs⟩ := Option.map_eq_some_iff.1 isSize
  have h8 := @run_callFunc_extern Tryz.prog 54 _ Extern.ReflectliteType.typeOf Tryz.func54 (by kernel_rfl) (by kernel_rfl) (by kernel_rfl) (by kernel_rfl)
  have tT := isTypeOf
  have cT := isComparable
  have mR := isMethodComparable
  have nE := noIsE
  have uE := noUnwrapE
  have vE := noUnwrapsE
  have heq := run_eql_iface_ptr_other (P := Tryz.prog) w Tryz.underlying58 Tryz.underlying226 hi hcmp hj (by rw [hjs]; decide) hne ha hb
  go_enter Tryz.func37, Tryz.ntmps37
  go_wp2
  refine wp_loop_rounds 1 ?_
  rw [rounds_succ]
  go_wp2
  go_ret
  exact ⟨rfl, rfl⟩

end Go.Proofs.YtflpihedhccdfaaGreatDoor
/-
  What is told of the errors of layer 5.
-/
namespace Go.Proofs.YtflpihedhccdfaaGreatDoor
open Go.RowKit

def sentV (b : Addr) : Value := .iface 226 (.pointer (some b))
theorem row_lt {w : World} {b : Nat} {o : Obj} (h : w.heap[b]? = some o) : b < w.heap.size := (Array.getElem?_eq_some_iff.1 h).1
/-- What the program has laid, of layer 5: two errors. -/
structure Laid5 (a d : Addr) (w : World) : Prop where
  range : w.cell? ⟨1, 0, none⟩ = some (.iface 226 (.pointer (some a)))
  full : w.cell? ⟨0, 0, none⟩ = some (.iface 226 (.pointer (some d)))
  ne : a ≠ d
  rowA : ∃ c t, w.heap[a.block]? = some (.cells c t (0, 0))
  rowD : ∃ c t, w.heap[d.block]? = some (.cells c t (0, 0))
theorem Laid5.below {a d : Addr} {w w' : World} (h : Laid5 a d w) (hb : Below w.heap.size w w') : Laid5 a d w' where
  range := (hb.cell (p := ⟨1, 0, none⟩) (cell_lt h.range)).trans h.range
  full := (hb.cell (p := ⟨0, 0, none⟩) (cell_lt h.full)).trans h.full
  ne := h.ne
  rowA := by obtain ⟨c, t, e⟩ := h.rowA; exact ⟨c, t, (hb.block _ (row_lt e)).trans e⟩
  rowD := by obtain ⟨c, t, e⟩ := h.rowD; exact ⟨c, t, (hb.block _ (row_lt e)).trans e⟩

set_option maxRecDepth 100000 in
set_option maxHeartbeats 4000000 in
theorem told_range (a d : Addr) (w : World) (h : Laid5 a d w) :
    Calls Tryz.prog 26 #[.iface 226 (.pointer (some a))] w fun r w' => r = .returned (.int .i64 10) ∧ w' = w := by
  have hg := h.range
  have l1 := cell_lt hg
  clear h
  go_enter Tryz.func26, Tryz.ntmps26
  go_wp2_with (go_at_call 37; refine (is_same _ _).mono ?_; rintro e w' ⟨rfl, rfl⟩)
  go_ret
  exact ⟨rfl, rfl⟩

set_option maxRecDepth 100000 in
set_option maxHeartbeats 4000000 in
theorem told_full (a d : Addr) (w : World) (h : Laid5 a d w) :
    Calls Tryz.prog 26 #[.iface 226 (.pointer (some d))] w fun r w' => r = .returned (.int .i64 11) ∧ w' = w := by
  obtain ⟨ca, ta, ha⟩ := h.rowA
  obtain ⟨cd, td, hd⟩ := h.rowD
  have l1 := cell_lt h.range
  have l2 := cell_lt h.full
  have hg := h.range
  have hg2 := h.full
  have I1 := is_other d a cd ca td ta w (fun e => h.ne e.symm) hd ha
  clear h
  go_enter Tryz.func26, Tryz.ntmps26
  go_wp2_with fail
  refine I1.mono ?_
  rintro e w' ⟨rfl, rfl⟩
  go_wp2_with fail
  refine (is_same _ _).mono ?_
  rintro e w' ⟨rfl, rfl⟩
  go_wp2_with fail
  go_ret
  exact ⟨rfl, rfl⟩
end Go.Proofs.YtflpihedhccdfaaGreatDoor
/-
  Lines, plainly: the pieces of a text (the half of Edit's text that knows no edits). No program here.
-/
namespace Go.Proofs.YtflpihedhccdfaaGreatDoor
open Go.RowKit

def linesL : List UInt8 → List (List UInt8)
  | [] => [[]]
  | c :: l => if c = 10 then [] :: linesL l else match linesL l with | [] => [[c]] | p :: ps => (c :: p) :: ps

theorem linesL_ne (l : List UInt8) : linesL l ≠ [] := by
  cases l with
  | nil => simp [linesL]
  | cons c l =>
    simp only [linesL]
    split
    · simp
    · split <;> simp
theorem linesL_none : ∀ (l : List UInt8), (∀ c ∈ l, c ≠ 10) → linesL l = [l]
  | [], _ => rfl
  | c :: l, h => by
    have ih := linesL_none l (fun x hx => h x (List.mem_cons_of_mem _ hx))
    have hc := h c List.mem_cons_self
    simp [linesL, hc, ih]
theorem linesL_at (b : List UInt8) : ∀ (a : List UInt8), (∀ c ∈ a, c ≠ 10) → linesL (a ++ 10 :: b) = a :: linesL b
  | [], _ => by simp [linesL]
  | c :: a, h => by
    have ih := linesL_at b a (fun x hx => h x (List.mem_cons_of_mem _ hx))
    have hc := h c List.mem_cons_self
    simp [linesL, hc, ih]

theorem splitK_lines : ∀ (k : Nat) (l : List UInt8), l.count 10 = k → Lib.splitK [10] 0 k l = linesL l
  | 0, l, h => by
    rw [linesL_none l (fun c hc e => by subst e; exact (List.count_eq_zero.1 h) hc)]
    rfl
  | k + 1, l, h => by
    have hne : Lib.indexByte l 10 ≠ -1 := fun e => by
      have hm : (10 : UInt8) ∈ l := List.count_pos_iff.1 (by omega)
      obtain ⟨j, hj⟩ := List.mem_iff_getElem?.1 hm
      exact Lib.indexByte_none e j hj
    have hge := Lib.indexByte_ge l 10
    obtain ⟨o, ho⟩ : ∃ o : Nat, Lib.indexByte l 10 = o := ⟨(Lib.indexByte l 10).toNat, by omega⟩
    obtain ⟨h1, h2⟩ := Lib.indexByte_some ho
    obtain ⟨hl, hx⟩ := List.getElem?_eq_some_iff.1 h1
    have hcut : l = l.take o ++ 10 :: l.drop (o + 1) := by
      rw [← hx, ← List.drop_eq_getElem_cons hl, List.take_append_drop]
    have ha : ∀ c ∈ l.take o, c ≠ 10 := fun c hc e => by
      subst e
      obtain ⟨j, hj⟩ := List.mem_iff_getElem?.1 hc
      rw [List.getElem?_take] at hj
      split at hj
      · rename_i hjo
        exact h2 j hjo hj
      · cases hj
    have hcount : (l.drop (o + 1)).count 10 = k := by
      have e := congrArg (List.count 10) hcut
      rw [List.count_append, List.count_cons_self, List.count_eq_zero.2 (fun hm => ha 10 hm rfl)] at e
      omega
    have ih := splitK_lines k (l.drop (o + 1)) hcount
    have hneg : (Lib.index l [10] == -1) = false := by rw [Lib.index_one, ho]; simp <;> omega
    rw [Lib.splitK, hneg]
    simp only [Bool.false_eq_true, if_false, Lib.index_one, ho, Int.toNat_natCast, Nat.add_zero, List.length_cons, List.length_nil, Nat.zero_add]
    rw [ih]
    conv => rhs; rw [hcut]
    rw [linesL_at _ _ ha]

def toB (l : List UInt8) : ByteArray := ⟨l.toArray⟩
theorem toB_data (l : List UInt8) : (toB l).data.toList = l := rfl
theorem toB_of (s : ByteArray) : toB s.data.toList = s := bytes_eq rfl
theorem toB_size (l : List UInt8) : (toB l).size = l.length := by rw [← bytes_len, toB_data]
/-- A text's lines. -/
def piecesB (s : ByteArray) : List ByteArray := (linesL s.data.toList).map toB
def nlB : ByteArray := ⟨#[10]⟩
theorem splitB_pieces (s : ByteArray) : Lib.splitB nlB 0 (Lib.countB s nlB) s = piecesB s := by
  have h := Lib.splitB_data nlB 0 (Lib.countB s nlB) s
  have hc : Lib.countB s nlB = s.data.toList.count 10 := by
    show Lib.count s.data.toList [10] = _
    exact Lib.count_one 10 _
  have e : Lib.splitK nlB.data.toList 0 (Lib.countB s nlB) s.data.toList = linesL s.data.toList := splitK_lines _ _ hc.symm
  rw [e] at h
  unfold piecesB
  rw [← h, List.map_map]
  conv => lhs; rw [← List.map_id (Lib.splitB nlB 0 (Lib.countB s nlB) s)]
  apply List.map_congr_left
  intro x _
  exact (toB_of x).symm
theorem pieces_len (s : ByteArray) : (piecesB s).length = Lib.countB s nlB + 1 := by
  rw [← splitB_pieces]
  exact Lib.splitB_all nlB (by decide) 0 _ s rfl

def join10 : List (List UInt8) → List UInt8
  | [] => []
  | [p] => p
  | p :: q :: ps => p ++ 10 :: join10 (q :: ps)
theorem join_lines : ∀ l : List UInt8, join10 (linesL l) = l
  | [] => rfl
  | c :: l => by
    have ih := join_lines l
    have hne := linesL_ne l
    simp only [linesL]
    split
    · rename_i hc
      subst hc
      cases hl : linesL l with
      | nil => exact absurd hl hne
      | cons p ps =>
        rw [hl] at ih
        simp only [join10, List.nil_append]
        rw [ih]
    · cases hl : linesL l with
      | nil => exact absurd hl hne
      | cons p ps =>
        rw [hl] at ih
        cases ps with
        | nil => simp only [join10] at ih ⊢; rw [ih]
        | cons q ps => simp only [join10, List.cons_append] at ih ⊢; rw [ih]

/-! ### Where lines begin -/
def stL : Nat → List (List UInt8) → List Nat
  | _, [] => []
  | f, p :: ps => f :: stL (f + p.length + 1) ps
def nls : Nat → List UInt8 → List Nat
  | _, [] => []
  | k, c :: l => if c = 10 then (k + 1) :: nls (k + 1) l else nls (k + 1) l
theorem starts_go : ∀ (l : List UInt8) (f : Nat) (cur p : List UInt8) (ps : List (List UInt8)), linesL l = p :: ps → stL f ((cur ++ p) :: ps) = f :: nls (f + cur.length) l
  | [], f, cur, p, ps, h => by
    simp only [linesL, List.cons.injEq] at h
    obtain ⟨rfl, rfl⟩ := h
    simp [stL, nls]
  | c :: l, f, cur, p, ps, h => by
    have hne := linesL_ne l
    cases hl : linesL l with
    | nil => exact absurd hl hne
    | cons p2 ps2 =>
      simp only [linesL, hl] at h
      split at h
      · rename_i hc
        subst hc
        cases h
        have ih := starts_go l (f + cur.length + 1) [] p2 ps2 hl
        simp only [List.nil_append, List.length_nil, Nat.add_zero] at ih
        simp only [stL, List.append_nil, nls, if_true]
        rw [← ih]
        rfl
      · rename_i hc
        cases h
        have ih := starts_go l f (cur ++ [c]) p2 _ hl
        simp only [List.append_assoc, List.singleton_append, List.length_append, List.length_cons, List.length_nil, Nat.zero_add] at ih
        simp only [nls, if_neg hc]
        rw [ih, Nat.add_assoc]
theorem starts_is (l : List UInt8) : stL 0 (linesL l) = 0 :: nls 0 l := by
  cases hl : linesL l with
  | nil => exact absurd hl (linesL_ne l)
  | cons p ps => exact starts_go l 0 [] p ps hl
theorem stL_len : ∀ (f : Nat) (ps : List (List UInt8)), (stL f ps).length = ps.length
  | _, [] => rfl
  | f, p :: ps => by simp [stL, stL_len]

theorem piece_at : ∀ (ps : List (List UInt8)) (f n : Nat) (p : List UInt8), ps[n]? = some p → ∃ st, (stL f ps)[n]? = some (f + st) ∧ ((join10 ps).drop st).take p.length = p ∧ st + p.length ≤ (join10 ps).length ∧
    (n + 1 < ps.length → (stL f ps)[n + 1]? = some (f + st + p.length + 1)) ∧ (n + 1 = ps.length → st + p.length = (join10 ps).length)
  | [], f, n, p, h => by simp at h
  | [q], f, 0, p, h => by
    simp at h
    subst h
    exact ⟨0, by simp [stL], by simp [join10], by simp [join10], by simp, by simp [join10]⟩
  | [q], f, n + 1, p, h => by simp at h
  | q :: q2 :: ps, f, 0, p, h => by
    simp at h
    subst h
    exact ⟨0, by simp [stL], by simp [join10], by simp [join10], by simp [stL], by simp⟩
  | q :: q2 :: ps, f, n + 1, p, h => by
    obtain ⟨st, h1, h2, h3, h4, h5⟩ := piece_at (q2 :: ps) (f + q.length + 1) n p (by simpa using h)
    refine ⟨q.length + 1 + st, ?_, ?_, ?_, fun hn => ?_, fun hn => ?_⟩
    · simp only [stL, List.getElem?_cons_succ] at h1 ⊢
      rw [h1]; congr 1; omega
    · have e : (join10 (q :: q2 :: ps)).drop (q.length + 1 + st) = (join10 (q2 :: ps)).drop st := by
        simp only [join10]
        have e2 : q ++ 10 :: join10 (q2 :: ps) = (q ++ [10]) ++ join10 (q2 :: ps) := by simp
        rw [e2, List.drop_append]
        have e3 : q.length + 1 + st - (q ++ [10]).length = st := by simp <;> omega
        rw [e3, List.drop_of_length_le (by simp <;> omega)]
        rfl
      rw [e]; exact h2
    · simp only [join10, List.length_append, List.length_cons]; omega
    · have := h4 (by simp at hn ⊢; omega)
      simp only [stL, List.getElem?_cons_succ] at this ⊢
      rw [this]; congr 1; omega
    · have := h5 (by simp at hn ⊢; omega)
      simp only [join10, List.length_append, List.length_cons]; omega

def listsOf (ps : List ByteArray) : List (List UInt8) := ps.map fun p => p.data.toList
theorem lists_pieces (s : ByteArray) : listsOf (piecesB s) = linesL s.data.toList := by
  unfold listsOf piecesB
  rw [List.map_map]
  conv => rhs; rw [← List.map_id (linesL s.data.toList)]
  apply List.map_congr_left
  intro x _
  rfl
theorem join_pieces (s : ByteArray) : join10 (listsOf (piecesB s)) = s.data.toList := by rw [lists_pieces, join_lines]
end Go.Proofs.YtflpihedhccdfaaGreatDoor
/-
  Walks: where lines begin, a line: by the reference of layer 2.
-/
namespace Go.Proofs.YtflpihedhccdfaaGreatDoor
open Go.RowKit

theorem infoInt : (Tryz.prog.info? 3).map (fun i => (i.zero, i.size, i.bytes)) = some (some (.int .i64 0), 1, 8) := by kernel_rfl

/-- The slice value '.slice A n c' holds, in w, the numbers l. -/
def HoldsN (w : World) (A : Option Addr) (l : List Nat) : Prop :=
  ∀ (k : Nat) (x : Nat), l[k]? = some x → ∃ b off, A = some ⟨b, off, none⟩ ∧ w.cell? ⟨b, off + k, none⟩ = some (.int .i64 x)
theorem HoldsN.below {w w' : World} {A : Option Addr} {l : List Nat} (h : HoldsN w A l) (hb : Below w.heap.size w w') : HoldsN w' A l := fun k x hx => by
  obtain ⟨b, off, e, h1⟩ := h k x hx
  have hl : b < w.heap.size := cell_lt h1
  exact ⟨b, off, e, (hb.cell (p := ⟨b, _, none⟩) hl).trans h1⟩
def natCells (l : List Nat) : List Value := l.map fun (n : Nat) => Value.int .i64 (n : Int)
theorem natCells_length (l : List Nat) : (natCells l).length = l.length := by simp [natCells]
theorem natCells_snoc (l : List Nat) (x : Nat) : natCells (l ++ [x]) = natCells l ++ [.int .i64 (x : Int)] := by simp [natCells]
theorem holdsN_of_own {w : World} {base : Nat} {e : TypeId} {v : Value} {n : Nat} {l : List Nat} (h : w.ownsRow base e 1 v n (natCells l)) :
    ∃ A c, v = .slice A l.length c ∧ n = l.length ∧ HoldsN w A l ∧ l.length ≤ c := by
  have hn : n = l.length := by have h1 := h.1; rw [natCells_length] at h1; omega
  subst hn
  rcases h.2 with ⟨rfl, h0⟩ | ⟨g, cap, cur, rfl, _, _, hcap, _⟩
  · have : l = [] := List.eq_nil_of_length_eq_zero h0
    subst this
    exact ⟨none, 0, rfl, rfl, fun k x hx => by simp at hx, Nat.le_refl _⟩
  · refine ⟨some ⟨g, 0, none⟩, cap, rfl, rfl, fun k x hx => ?_, hcap⟩
    have hc := h.cells (g := g) rfl
    have h1 : (natCells l)[k]? = some (.int .i64 x) := by simp [natCells, hx]
    have c1 := hc _ _ h1
    have ea : ∀ j, (⟨g, 0, none⟩ : Addr).add j = ⟨g, 0 + j, none⟩ := fun j => by
      unfold Addr.add
      split
      · rename_i h; subst h; rfl
      · rfl
    rw [ea] at c1
    exact ⟨g, 0, rfl, c1⟩

def startsOf (s : ByteArray) : List Nat := stL 0 (linesL s.data.toList)
theorem starts_len (s : ByteArray) : (startsOf s).length = (piecesB s).length := by unfold startsOf piecesB; rw [stL_len, List.length_map]
theorem nls_step {s : ByteArray} {k : Nat} (h : k < s.size) : nls k (s.data.toList.drop k) = if s[k] = 10 then (k + 1) :: nls (k + 1) (s.data.toList.drop (k + 1)) else nls (k + 1) (s.data.toList.drop (k + 1)) := by
  have hl : k < s.data.toList.length := by rw [bytes_len]; exact h
  rw [List.drop_eq_getElem_cons hl]
  simp only [nls]
  rfl

set_option maxRecDepth 100000 in
set_option maxHeartbeats 2000000 in
theorem starts_any (s : ByteArray) (w : World) (hs : s.size ≤ 1000000) :
    Calls Tryz.prog 19 #[.string s] w fun e w' => ∃ A c, e = .returned (.slice A (piecesB s).length c) ∧ HoldsN w' A (startsOf s) ∧ (piecesB s).length ≤ c ∧ Below w.heap.size w w' := by
  obtain ⟨i0, hi0, hz0, hz1, hz2⟩ := info_parts infoInt
  have hstart : startsOf s = 0 :: nls 0 s.data.toList := starts_is _
  have Hst := Lib.hid hstart
  clear hstart
  go_enter Tryz.func19, Tryz.ntmps19
  go_wp2
  go_loopw [3, 4] (fun v i wr => ∃ (k : Nat) (done : List Nat), k ≤ s.size ∧ i = .int .i64 k ∧ done.length ≤ k + 1 ∧ Hid (done ++ nls k (s.data.toList.drop k) = startsOf s) ∧ wr.ownsRow w.heap.size 3 1 v done.length (natCells done) ∧ Below w.heap.size w wr)
    (fun _ i _ => s.size - (intOf i).toNat)
  case atStart =>
    exact ⟨0, [0], by omega, rfl, by simp, Lib.hid (by rw [Hst.out]; rfl), World.ownsRow_lit w #[.int .i64 0] 1 (Nat.le_refl _) (by decide) rfl, (Below.refl _ _).alloc (Nat.le_refl _) _⟩
  case round =>
    obtain ⟨k, done, hk, rfl, hd, Hd, hown, hb⟩ := hrel
    by_cases hlt : k < s.size
    · have hstep := nls_step hlt
      have hsz := hb.size
      have geo := ownBlock_ge hown
      by_cases hc : s[k] = 10
      · have hq : ((s[k].toNat : Int) == 10) = true := by rw [hc]; rfl
        rw [if_pos hc] at hstep
        have Hs := Lib.hid hstep
        clear hstep hc
        go_wp2_with (at_builtin; go_must (refine wpList_append_own _ rfl _ _ 43 rfl w.heap.size 3 i0 _ 1 8 Tryz.underlying43 hi0 hz0 hz1 hz2 rfl (by decide) u3 done.length (natCells done) rfl (hown.alloc _) ⟨wr.heap.size, 0, none⟩ 1 1 [.int .i64 ((k : Int) + 1)] rfl rfl (cell_one_new _ _ _) (by simp [Value.oneCell']) (by unfold maxLen; omega) (by omega) (by simp; omega) ?_); go_must (intro v1 w3 hown3 hg3 _); go_must (obtain ⟨A9, c9, rfl⟩ := owns_slice hown3))
        go_roundw
        case rel =>
          refine ⟨k + 1, done ++ [k + 1], by omega, by go_num, by simp; omega, Lib.hid ?_, ?_, (hb.alloc hsz _).grown hg3 (by simp; omega) geo⟩
          · rw [← Hd.out, Hs.out]; simp
          · rw [natCells_snoc]
            have e : (done ++ [k + 1]).length = done.length + 1 := by simp
            rw [e]
            exact hown3
        case measure => simp [intOf]; omega
      · have hq : ((s[k].toNat : Int) == 10) = false := by
          simp
          intro e
          exact hc (UInt8.toNat_inj.1 (by have : s[k].toNat = 10 := by omega
                                          rw [this]; rfl))
        rw [if_neg hc] at hstep
        have Hs := Lib.hid hstep
        clear hstep hc
        go_wp2
        go_roundw
        case rel => exact ⟨k + 1, done, by omega, by go_num, by omega, Lib.hid (by rw [← Hd.out, Hs.out]), hown, hb⟩
        case measure => simp [intOf]; omega
    · obtain rfl : k = s.size := by omega
      have hdone : done = startsOf s := by
        rw [← Hd.out, List.drop_of_length_le (by rw [bytes_len]; exact Nat.le_refl _)]
        simp [nls]
      have HD := Lib.hid hdone
      clear hdone
      go_wp2
      go_ret
      obtain ⟨B, d, rfl, _, hH, hcap⟩ := holdsN_of_own hown
      rw [HD.out] at hH hcap
      rw [starts_len] at hcap
      exact ⟨B, d, by rw [HD.out, starts_len]; rfl, hH, hcap, hb⟩

theorem pieces_small {s : ByteArray} (hs : s.size ≤ 1000000) : (piecesB s).length ≤ 1000001 := by
  have h1 := pieces_len s
  have h2 := Lib.countB_le nlB (by decide) s.size s (Nat.le_refl _)
  omega

/-- Where the piece lies. -/
theorem piece_lies {s p : ByteArray} {n : Nat} (h : (piecesB s)[n]? = some p) : ∃ st, (startsOf s)[n]? = some st ∧ p = s.extract st (st + p.size) ∧ st + p.size ≤ s.size ∧
    (n + 1 < (piecesB s).length → (startsOf s)[n + 1]? = some (st + p.size + 1)) ∧ (n + 1 = (piecesB s).length → st + p.size = s.size) := by
  have hl : (piecesB s).length = (linesL s.data.toList).length := by unfold piecesB; rw [List.length_map]
  have hq : (linesL s.data.toList)[n]? = some p.data.toList := by
    unfold piecesB at h
    rw [List.getElem?_map] at h
    obtain ⟨q, h1, h2⟩ := Option.map_eq_some_iff.1 h
    rw [h1, ← h2]
    rfl
  obtain ⟨st, h1, h2, h3, h4, h5⟩ := piece_at (linesL s.data.toList) 0 n _ hq
  rw [join_lines] at h2 h3 h5
  rw [bytes_len] at h2 h3 h4 h5
  rw [bytes_len] at h3 h5
  refine ⟨st, by unfold startsOf; rw [h1]; congr 1; omega, bytes_eq ?_, h3, fun hn => ?_, fun hn => h5 (by omega)⟩
  · rw [bytes_ext]
    conv => lhs; rw [← h2]
    congr 1
    omega
  · unfold startsOf
    rw [h4 (by omega)]
    congr 1
    omega

set_option maxRecDepth 100000 in
set_option maxHeartbeats 2000000 in
theorem line_any (s p : ByteArray) (n : Nat) (w : World) (hs : s.size ≤ 1000000) (hp : (piecesB s)[n]? = some p) :
    Calls Tryz.prog 21 #[.string s, .int .i64 n] w fun e w' => e = .returned (.tuple #[.string p, .int .i64 0]) ∧ Below w.heap.size w w' := by
  obtain ⟨st, h1, h2, h3, h4, h5⟩ := piece_lies hp
  have hl : n < (piecesB s).length := (List.getElem?_eq_some_iff.1 hp).1
  have hsm := pieces_small hs
  have H := starts_any s w hs
  obtain ⟨z, hz⟩ : ∃ z, st + p.size = z := ⟨_, rfl⟩
  rw [hz] at h2 h3 h4 h5
  have Hp : Hid (p = s.extract st z) := Lib.hid h2
  have hsz : st ≤ z := by omega
  clear hz
  generalize (piecesB s).length = N at *
  clear hp h2
  go_enter Tryz.func21, Tryz.ntmps21
  go_wp2_with fail
  refine H.mono ?_
  rintro e w1 ⟨A, c, rfl, hH, hc, hb⟩
  clear H
  obtain ⟨b, off, rfl, c1⟩ := hH n st h1
  have hN : (n : Int) < (N : Int) := by omega
  by_cases hn : n + 1 < N
  · obtain ⟨b', off', e, c2⟩ := hH (n + 1) _ (h4 hn)
    cases e
    have hn2 : (n : Int) + 1 < (N : Int) := by omega
    have e1 : (((z + 1 : Nat) : Int) - 1) = (z : Int) := by omega
    have q1 : (st : Int) ≤ (z : Int) := by omega
    have q2 : (z : Int) ≤ (s.size : Int) := by omega
    have Hz := Lib.hid hH
    clear h4 h5 h1 hH
    go_wp2_with fail
    go_ret2
    exact ⟨by rw [Hp.out]; rfl, hb⟩
  · have hd : decide ((n : Int) + 1 < (N : Int)) = false := by simp; omega
    have hd2 : decide (n + 1 < N) = false := by simp; omega
    have hz : z = s.size := h5 (by omega)
    subst hz
    have q1 : (st : Int) ≤ (s.size : Int) := by omega
    clear h4 h5 h1 hH
    go_wp2_with fail
    go_ret2
    exact ⟨by rw [Hp.out]; rfl, hb⟩
end Go.Proofs.YtflpihedhccdfaaGreatDoor
/-
  Walks of strings.Count, strings.Index, strings.Split at one byte, "\n". Shape: the shelf's own walks of them, turned to this program.
-/
namespace Go.Proofs.YtflpihedhccdfaaGreatDoor
open Go.RowKit

theorem infoStr : (Tryz.prog.info? 9).map (fun i => (i.zero, i.size, i.bytes)) = some (some (.string ByteArray.empty), 1, 16) := by kernel_rfl

set_option maxRecDepth 100000 in
theorem indexByte_any (s : ByteArray) (c : Int) (w : World) :
    Calls Tryz.prog 87 #[.string s, .int .u8 c] w fun e w' => e = .returned (.int .i64 (Lib.indexByte s.data.toList c.toNat.toUInt8)) ∧ w' = w := by
  go_enter Tryz.func87, Tryz.ntmps87
  go_wp2_with fail
  rw [run_callFunc_extern Tryz.func102 (by kernel_rfl) (by kernel_rfl) (by kernel_rfl) (e := Extern.BytealgIndexByte.indexByte) (by kernel_rfl), Lib.run_indexByteString]
  simp only [Result.andThen]
  rw [Oper.upon_value]
  go_wp2
  go_ret
  exact ⟨rfl, rfl⟩

set_option maxRecDepth 100000 in
theorem sliteIndex_any (s : ByteArray) (w : World) :
    Calls Tryz.prog 74 #[.string s, .string nlB] w fun e w' => e = .returned (.int .i64 (Lib.indexB s nlB)) ∧ w' = w := by
  have hI : Lib.indexB s nlB = Lib.indexByte s.data.toList 10 := Lib.index_one _ _
  have n0 : ((nlB.size : Int) == 0) = false := rfl
  have n1 : ((nlB.size : Int) == 1) = true := rfl
  by_cases hs : nlB = s
  · have hb := bytes_beq_yes hs
    have h0 : Lib.indexB s nlB = 0 := by subst hs; rfl
    rw [h0]
    clear hI h0 hs
    go_enter Tryz.func74, Tryz.ntmps74
    go_wp2
    go_ret
    exact ⟨rfl, rfl⟩
  · have hb := bytes_beq_no hs
    rw [hI]
    clear hI hs
    go_enter Tryz.func74, Tryz.ntmps74
    go_wp2_with fail
    refine (indexByte_any s ((nlB.data[0]'(by decide)).toNat : Int) w).mono ?_
    rintro e w' ⟨rfl, rfl⟩
    go_wp2
    go_ret
    exact ⟨rfl, rfl⟩

set_option maxRecDepth 100000 in
theorem index_any (s : ByteArray) (w : World) :
    Calls Tryz.prog 60 #[.string s, .string nlB] w fun e w' => e = .returned (.int .i64 (Lib.indexB s nlB)) ∧ w' = w := by
  go_enter Tryz.func60, Tryz.ntmps60
  go_wp2_with fail
  refine (sliteIndex_any s w).mono ?_
  rintro e w' ⟨rfl, rfl⟩
  go_wp2
  go_ret
  exact ⟨rfl, rfl⟩

set_option maxRecDepth 100000 in
theorem count_any (s : ByteArray) (w : World) :
    Calls Tryz.prog 59 #[.string s, .string nlB] w fun e w' => e = .returned (.int .i64 (Lib.countB s nlB)) ∧ w' = w := by
  have hC : (Lib.countByte s.data.toList 10 : Int) = Lib.countB s nlB := by
    show _ = ((Lib.count s.data.toList [10] : Nat) : Int)
    rw [Lib.count_one]
    rfl
  rw [← hC]
  clear hC
  go_enter Tryz.func59, Tryz.ntmps59
  go_wp2_with fail
  rw [run_callFunc_extern Tryz.func73 (by kernel_rfl) (by kernel_rfl) (by kernel_rfl) (e := Extern.BytealgCount.count) (by kernel_rfl), Lib.run_countString]
  simp only [Result.andThen]
  rw [Oper.upon_value]
  go_wp2
  go_ret
  exact ⟨rfl, rfl⟩

set_option maxHeartbeats 4000000 in
set_option maxRecDepth 1000000 in
theorem genSplit_any (s : ByteArray) (w : World) (hs : s.size < 4294967281) :
    Calls Tryz.prog 40 #[.string s, .string nlB, .int .i64 0, .int .i64 (-1)] w fun e w' =>
      e = .returned (.slice (some ⟨w.heap.size, 0, none⟩) (piecesB s).length (piecesB s).length) ∧ w' = w.alloc (.cells ((piecesB s).map Value.string).toArray 9) := by
  have hC := count_any s w
  rw [← splitB_pieces]
  have hle := Lib.countB_le nlB (by decide) s.size s (Nat.le_refl _)
  obtain ⟨N, hN⟩ : ∃ N : Nat, N = Lib.countB s nlB + 1 := ⟨_, rfl⟩
  have hlen0 := Lib.splitB_all nlB (by decide) 0 _ s rfl
  have hlen : (Lib.splitB nlB 0 (N - 1) s).length = N := by rw [hN, Nat.add_sub_cancel]; exact hlen0
  have e2 : Lib.cellsOf (Lib.splitB nlB 0 (N - 1) s) N = ((Lib.splitB nlB 0 (Lib.countB s nlB) s).map Value.string).toArray := by
    rw [hN, Nat.add_sub_cancel, ← hlen0]; exact Lib.cellsOf_full _
  have e3 : (Lib.splitB nlB 0 (Lib.countB s nlB) s).length = N := by rw [hlen0, hN]
  rw [← e2, e3]
  have hC2 : ((Lib.countB s nlB : Nat) : Int) = (N : Int) - 1 := by omega
  rw [hC2] at hC
  have hN1 : 1 ≤ N := by omega
  have hNs : N ≤ s.size + 1 := by omega
  clear e2 e3 hC2 hlen0 hN hle
  have hmk := run_make_row' (P := Tryz.prog) 70 9 (.string ByteArray.empty) 16 (by kernel_rfl) infoStr rfl .i64 .i64 N (by omega) (by omega)
  have hmin : min (N : Int) ((s.size : Int) + 1) = (N : Int) := by omega
  have hse : nlB.toList.isEmpty = false := by rw [Lib.toList_data]; rfl
  have Hlen := Lib.hid hlen
  clear hlen
  go_enter Tryz.func40, Tryz.ntmps40
  go_wp2_with fail
  refine hC.mono ?_
  rintro e w' ⟨rfl, rfl⟩
  clear hC
  go_wp2
  clear hmk hmin
  go_loopg [0, 10] (N - 1) (fun g s0 s10 wr => ∃ (done : List ByteArray) (rest : ByteArray), s0 = .string rest ∧ s10 = .int .i64 done.length ∧ done.length ≤ N - 1 ∧ g = N - 1 - done.length ∧ rest.size ≤ s.size ∧
      wr = w'.alloc (.cells (Lib.cellsOf done N) 9) ∧ Hid (done ++ Lib.splitB nlB 0 (N - 1 - done.length) rest = Lib.splitB nlB 0 (N - 1) s))
  case atStart => exact ⟨[], s, rfl, rfl, Nat.zero_le _, rfl, Nat.le_refl _, by rw [Lib.cellsOf_nil], Lib.hid rfl⟩
  case round =>
    obtain ⟨done, rest, rfl, rfl, hd, rfl, hrs, rfl, HS⟩ := hrel
    have hnext : (Lib.cellsOf done N)[done.length]? = some (.string ByteArray.empty) := Lib.cellsOf_next (by omega)
    have fin : Lib.splitB nlB 0 (N - 1 - done.length) rest = [rest] → N = done.length + 1 ∧ (Lib.cellsOf done N).setIfInBounds done.length (.string rest) = Lib.cellsOf (Lib.splitB nlB 0 (N - 1) s) N := fun h => by
      have e := HS.out
      rw [h] at e
      have e5 := Hlen.out
      rw [← e] at e5 ⊢
      refine ⟨by rw [← e5]; simp, ?_⟩
      rw [Lib.cellsOf_set (by rw [← e5]; simp) rest]
    by_cases hlt : done.length < N - 1
    · have hltz : ((done.length : Nat) : Int) < (N : Int) - 1 := by omega
      rcases Lib.indexB_cases rest nlB with hix | ⟨i, hix, hroom⟩
      · have H := fun W => index_any rest W
        rw [hix] at H
        have FIN := Lib.hid (fin (Lib.splitB_miss nlB 0 _ rest hix))
        clear fin hix
        go_wp2_with fail
        refine (H _).mono ?_
        rintro e W ⟨rfl, rfl⟩
        clear H
        go_wp2
        go_ret
        obtain ⟨f1, f2⟩ := FIN.out
        rw [← f2]
        exact ⟨by first | (congr 2 <;> omega) | (simp; omega), rfl⟩
      · have H := fun W => index_any rest W
        rw [hix] at H
        have hz : nlB.size = 1 := rfl
        rw [hz] at hroom
        have c0 : ¬ ((i : Int) < 0) := by omega
        have c2 : (i : Int) ≤ ↑rest.size := by omega
        have c3 : (0 : Int) ≤ ↑i + 1 := by omega
        have c4 : (↑i + 1 : Int) ≤ ↑rest.size := by omega
        have HIX := Lib.hid hix
        clear hix
        go_wp2_with fail
        refine (H _).mono ?_
        rintro e W ⟨rfl, rfl⟩
        clear H
        go_wp2
        go_roundg (N - 1 - (done.length + 1))
        case measure => omega
        case rel =>
          refine ⟨done ++ [rest.extract 0 (i + 0)], rest.extract (i + nlB.size) rest.size, rfl, by simp, by simp; omega, by simp, by rw [ByteArray.size_extract]; omega, by rw [← Lib.cellsOf_set (by omega)]; rfl, Lib.hid ?_⟩
          rw [← HS.out, show N - 1 - done.length = (N - 1 - (done.length + 1)) + 1 by omega, Lib.splitB_hit nlB 0 _ rest i HIX.out]
          simp
    · have hltz : ¬ (((done.length : Nat) : Int) < (N : Int) - 1) := by omega
      have FIN := Lib.hid (fin (by rw [show N - 1 - done.length = 0 by omega]; rfl))
      clear fin
      go_wp2
      go_ret
      obtain ⟨f1, f2⟩ := FIN.out
      rw [← f2]
      exact ⟨by first | (congr 2 <;> omega) | (simp; omega), rfl⟩

set_option maxRecDepth 100000 in
theorem split_any (s : ByteArray) (w : World) (hs : s.size < 4294967281) :
    Calls Tryz.prog 28 #[.string s, .string nlB] w fun e w' =>
      e = .returned (.slice (some ⟨w.heap.size, 0, none⟩) (piecesB s).length (piecesB s).length) ∧ w' = w.alloc (.cells ((piecesB s).map Value.string).toArray 9) := by
  go_enter Tryz.func28, Tryz.ntmps28
  go_wp2_with fail
  refine (genSplit_any s w hs).mono ?_
  rintro e w' ⟨rfl, rfl⟩
  go_wp2
  go_ret
  exact ⟨rfl, rfl⟩
end Go.Proofs.YtflpihedhccdfaaGreatDoor
