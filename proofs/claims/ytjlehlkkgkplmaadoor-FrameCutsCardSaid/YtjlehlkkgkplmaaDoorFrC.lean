/-
  What the program has laid that layer 19 reads; the library's functions at it.
-/
import Derived.Test.YtjlehlkkgkplmaaDoorProg
import Derived.Test.YtjlehlkkgkplmaaDoorReg
import Derived.WalkKit
import Derived.WalkSpells
import Derived.WalkLawsBesides
import Derived.Lib.Hide
import Derived.Lib.MinMax
import Derived.Deep.QuietTactic
import Derived.BigQuiet
import Derived.OwnWalk
import Derived.Deep.AppendLies
import Derived.KernelRfl
import Derived.Lib.LaidTab
import Derived.Test.YtjlehlkkgkplmaaDoorFrA
import Derived.Test.YtjlehlkkgkplmaaDoorFrLay
import Derived.Test.YtjlehlkkgkplmaaDoorFrR
set_option linter.unusedSimpArgs false
set_option linter.unusedVariables false
namespace Go.Proofs.YtjlehlkkgkplmaaDoor
open Go Go.RowKit Go.Sort

theorem gPow : Tryd.prog.globalNamed "internal/strconv.uint64pow10" = some 1 := by kernel_rfl
/-- What is laid. -/
structure LaidF (a : Addr) (w : World) : Prop where
  err : ErrF a w
  big : ∃ m : Int, w.cell? ⟨4, 0, none⟩ = some (.int .i64 m)
  pow : Lib.TabIs Tryd.prog w "internal/strconv.uint64pow10" .u64 Lib.pow10Tab
  powRow : 1 < w.heap.size
  syn : ∃ tp p, w.cell? ⟨5, 0, none⟩ = some (.iface tp p)
  rng : ∃ tp p, w.cell? ⟨6, 0, none⟩ = some (.iface tp p)
theorem LaidF.below {a : Addr} {w w' : World} (h : LaidF a w) (hb : Below w.heap.size w w') : LaidF a w' where
  err := h.err.below hb
  big := by obtain ⟨m, hm⟩ := h.big; exact ⟨m, (hb.cell (p := ⟨4, 0, none⟩) (cell_lt hm)).trans hm⟩
  pow := by
    have hp := h.pow
    unfold Lib.TabIs at hp ⊢
    rw [← hp]
    unfold World.var?
    rw [gPow]
    simp only [Option.bind_some]
    rw [hb.block _ h.powRow]
  powRow := Nat.lt_of_lt_of_le h.powRow hb.size
  syn := by obtain ⟨t, p, hm⟩ := h.syn; exact ⟨t, p, (hb.cell (p := ⟨5, 0, none⟩) (cell_lt hm)).trans hm⟩
  rng := by obtain ⟨t, p, hm⟩ := h.rng; exact ⟨t, p, (hb.cell (p := ⟨6, 0, none⟩) (cell_lt hm)).trans hm⟩

theorem grow_low (w : World) (k : Nat) (os : Array Obj) : Below w.heap.size w (grow (w.drewN k) os) :=
  ⟨rfl, rfl, rfl, by simp [grow], fun j hj => by
    show (w.heap ++ os)[j]? = w.heap[j]?
    rw [Array.getElem?_append_left hj]⟩
/-- The digits of a number. -/
theorem Itoa_any (n : Int) (a : Addr) (w : World) (h0 : -9223372036854775808 ≤ n) (h1 : n ≤ 9223372036854775807) (h : LaidF a w) :
    Calls Tryd.prog 23 #[.int .i64 n] w fun e w' => e = .returned (.string ⟨(Lib.itoa n).toArray⟩) ∧ Below w.heap.size w w' :=
  (Lay_strconv_Itoa n h0 h1 w h.pow).mono fun e w' ⟨h1, k, os, h2⟩ => ⟨h1, by rw [h2]; exact grow_low w k os⟩
theorem Cut_lib (s sep : ByteArray) (a : Addr) (w : World) (hs : s.size ≤ 1000000) (h : LaidF a w) :
    Calls Tryd.prog 42 #[.string s, .string sep] w fun e w' => e = .returned (.tuple #[.string ⟨(Lib.cut s.data.toList sep.data.toList).1.toArray⟩, .string ⟨(Lib.cut s.data.toList sep.data.toList).2.1.toArray⟩, .bool (Lib.cut s.data.toList sep.data.toList).2.2]) ∧ Below w.heap.size w w' := by
  obtain ⟨m, hm⟩ := h.big
  exact (Lay_strings_Cut s sep m w (by omega) hm).mono fun e w' ⟨h1, n, h2⟩ => ⟨h1, by rw [h2]; exact ⟨rfl, rfl, rfl, Nat.le_refl _, fun _ _ => rfl⟩⟩
theorem Split_lib (s sep : ByteArray) (a : Addr) (w : World) (hs : s.size ≤ 1000000) (h1 : 1 ≤ sep.size) (h : LaidF a w) :
    Calls Tryd.prog 45 #[.string s, .string sep] w fun e w' =>
      e = .returned (.slice (some ⟨w.heap.size, 0, none⟩) (Lib.countB s sep + 1) (Lib.countB s sep + 1)) ∧ w' = w.alloc (.cells ((Lib.splitB sep 0 (Lib.countB s sep) s).map Value.string).toArray 9) := by
  obtain ⟨m, hm⟩ := h.big
  exact Lay_strings_Split s sep m w (by omega) hm h1
/-- 'Atoi' of a value, by what the document says of it. -/
theorem Atoi_any (s : ByteArray) (a : Addr) (w : World) (hs : s.size ≤ 1000000) (h : LaidF a w) :
    Calls Tryd.prog 55 #[.string s] w fun e w' => Below w.heap.size w w' ∧
      ((∃ m : Int, Lib.atoiAll s.data.toList = .ok m ∧ e = .returned (.tuple #[.int .i64 m, .nilIface]) ∧ -9223372036854775808 ≤ m ∧ m ≤ 9223372036854775807) ∨
       ((∀ m, Lib.atoiAll s.data.toList ≠ .ok m) ∧ ∃ (n : Int) (t : TypeId) (p : Value), e = .returned (.tuple #[.int .i64 n, .iface t p]))) := by
  rcases hr : Lib.atoiAll s.data.toList with m | _ | _
  · obtain ⟨b0, b1⟩ := Lib.atoiAll_bounds hr
    refine (Lay_strconv_Atoi_ok s (by omega) m hr w).mono fun e w' ⟨h1, h2⟩ => ⟨?_, .inl ⟨m, rfl, h1, b0, b1⟩⟩
    rcases h2 with rfl | ⟨t, rfl⟩
    · exact Below.refl _ _
    · exact Lib.bytesWorld_below w _ t
  · obtain ⟨tp, p, hv⟩ := h.syn
    exact (Lay_strconv_Atoi_bad s (by omega) (by rw [hr]; exact ⟨fun m e => (by cases e), fun e => (by cases e)⟩) _ w hv (.inr ⟨tp, p, rfl⟩)).mono fun e w' ⟨N, h1, h2, h3, h4⟩ => ⟨h4, .inr ⟨(fun m e => by cases e), _, _, _, h1⟩⟩
  · obtain ⟨tp, p, hv⟩ := h.rng
    exact (Lay_strconv_Atoi_range s (by omega) hr _ w hv (.inr ⟨tp, p, rfl⟩)).mono fun e w' ⟨N, h1, h2, h3, h4⟩ => ⟨h4, .inr ⟨(fun m e => by cases e), _, _, _, h1⟩⟩
end Go.Proofs.YtjlehlkkgkplmaaDoor
