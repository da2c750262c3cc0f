/-
  A line's tokens: by the program.
-/
import Derived.Test.YtflpihedhccdfaaGreatDoorProg
import Derived.Test.YtflpihedhccdfaaGreatDoorReg
import Derived.WalkKit
import Derived.WalkSpells
import Derived.WalkLawsBesides
import Derived.Lib.Hide
import Derived.Lib.MinMax
import Derived.Deep.QuietTactic
import Derived.BigQuiet
import Derived.OwnWalk
import Derived.Deep.AppendLies
import Derived.KernelRfl
import Derived.Laws.OwnMore
import Derived.Deep.OwnRows
import Derived.Lib.BufferMore
import Derived.Test.YtflpihedhccdfaaGreatDoorRxO
set_option linter.unusedSimpArgs false
set_option linter.unusedVariables false
namespace Go.Proofs.YtflpihedhccdfaaGreatDoor
open Go Go.RowKit

set_option maxRecDepth 100000 in
set_option maxHeartbeats 4000000 in
theorem Clone_any (B : Option Addr) (c : Nat) (l : List Tok) (w : World) (hl : l.length ≤ 10000) (hB : HoldsT w B l) :
    Calls Tryz.prog 33 #[.slice B l.length c] w fun e w' => ∃ v, e = .returned v ∧ w'.ownsRow w.heap.size 55 3 v l.length (tokCells l) ∧ Below w.heap.size w w' := by
  obtain ⟨i0, hi0, hz0, hz1, hz2⟩ := info_parts infoTok
  cases B with
  | none =>
    have hn : l = [] := by
      cases l with
      | nil => rfl
      | cons x m =>
        obtain ⟨b, off, e, _⟩ := hB 0 x rfl
        cases e
    subst hn
    have hq := Go.Lib.run_eql_slice_nil_nil (P := Tryz.prog) w 0 c Tryz.underlying35
    go_enter Tryz.func33, Tryz.ntmps33
    go_wp2_with fail
    go_ret
    exact ⟨_, rfl, World.ownsRow_nil _ _ _ _, Below.refl _ _⟩
  | some ad =>
    have hown : (w.alloc (.cells #[] 55)).ownsRow w.heap.size 55 3 (.slice (some ⟨w.heap.size, 0, none⟩) 0 0) 0 [] :=
      ⟨rfl, Or.inr ⟨w.heap.size, 0, _, rfl, Nat.le_refl _, heap_alloc_new w _, Nat.le_refl _, by unfold maxLen; omega, rfl, rfl⟩⟩
    have HO := Lib.hid hown
    have HH := Lib.hid (hB.below (below_new w (.cells #[] 55)))
    have HB := Lib.hid (below_new w (.cells #[] 55))
    have hq := Go.Lib.run_eql_slice_some_nil (P := Tryz.prog) w ad l.length c Tryz.underlying35
    have hl0 : (([] : List Tok).length) = 0 := rfl
    go_enter Tryz.func33, Tryz.ntmps33
    go_wp2_with (at_builtin; go_must (refine wpList_append_toks rfl _ _ rfl rfl i0 _ hi0 hz0 hz1 hz2 rfl w.heap.size _ 0 [] rfl HO.out (some ad) c l rfl HH.out (by omega) (by omega) (by simp) ?_); go_must (intro v4 w4 hown4 hg4))
    go_ret
    refine ⟨_, rfl, by simpa using hown4, (HB.out).grown hg4 (by simp) (fun k e => by cases e; exact Nat.le_refl _)⟩

set_option maxRecDepth 100000 in
set_option maxHeartbeats 4000000 in
theorem Line_out (X : Nat) (t : ByteArray) (q i : Int) (w : World) (h : IsLex w X t q) (hi : i < 0 ∨ ((piecesB t).length : Int) ≤ i) :
    Calls Tryz.prog 17 #[.pointer (some ⟨X, 0, none⟩), .int .i64 i] w fun e w' => e = .returned (.slice none 0 0) ∧ w' = w := by
  obtain ⟨base, v, ls, h1, h2, h3, h4⟩ := h
  obtain ⟨A, c, rfl, -, -, -⟩ := holdsL_of_own h2
  have hlen := textsOf_len ls
  rw [h3] at hlen
  have c0 : w.cell? ⟨X, 0, none⟩ = some (.slice A ls.length c) := by simp [World.cell?, h1]
  rw [hlen] at hi
  clear h1 h2 h3 h4 hlen
  by_cases h0 : i < 0
  · clear hi
    go_enter Tryz.func17, Tryz.ntmps17
    go_wp2_with fail
    go_ret
    exact ⟨rfl, rfl⟩
  · have hge : (ls.length : Int) ≤ i := by omega
    clear hi
    go_enter Tryz.func17, Tryz.ntmps17
    go_wp2_with fail
    go_ret
    exact ⟨rfl, rfl⟩

set_option maxRecDepth 100000 in
set_option maxHeartbeats 4000000 in
theorem Line_in (X : Nat) (t p : ByteArray) (q : Int) (k : Nat) (w : World) (h : IsLex w X t q) (ht : t.size ≤ 4000) (hp : (piecesB t)[k]? = some p) :
    Calls Tryz.prog 17 #[.pointer (some ⟨X, 0, none⟩), .int .i64 k] w fun e w' => ∃ v, e = .returned v ∧ w'.ownsRow w.heap.size 55 3 v (dLine p).length (tokCells (dLine p)) ∧ Below w.heap.size w w' := by
  obtain ⟨base, v, ls, h1, h2, h3, h4⟩ := h
  obtain ⟨A, c, rfl, -, hH, -⟩ := holdsL_of_own h2
  have hlen := textsOf_len ls
  rw [h3] at hlen
  have hpl := pieces_le t
  have c0 : w.cell? ⟨X, 0, none⟩ = some (.slice A ls.length c) := by simp [World.cell?, h1]
  have hk : k < ls.length := by rw [← hlen]; exact (List.getElem?_eq_some_iff.1 hp).1
  have hx := List.getElem?_eq_getElem hk
  obtain ⟨b, off, rfl, c1, c2⟩ := hH k ls[k] hx
  obtain ⟨hn, bse, hto⟩ := h4 ls[k] (List.getElem_mem hk)
  have hpt : ls[k].text = p := by
    have e : (textsOf ls)[k]? = some p := by rw [h3]; exact hp
    unfold textsOf at e
    rw [List.getElem?_map, hx] at e
    simpa using e
  have hps : p.size ≤ t.size := piece_small hp
  have hbd : ls.length ≤ 5000 := by omega
  generalize ls[k] = x at *
  obtain ⟨xt, xr, xn, xc⟩ := x
  simp only at hn hto hpt c1 c2
  subst hpt
  subst hn
  obtain ⟨A2, c2', e2, -, hHx, -⟩ := holdsT_of_own hto
  obtain ⟨rfl, rfl⟩ : xr = A2 ∧ xc = c2' := by cases e2; exact ⟨rfl, rfl⟩
  have hdl := dLine_len xt
  have HC := Lib.hid (Clone_any xr xc (dLine xt) w (by omega) hHx)
  clear h1 h2 h3 h4 hlen hx hto hHx hH hp e2 hpl
  go_enter Tryz.func17, Tryz.ntmps17
  go_wp2_with fail
  refine HC.out.mono ?_
  rintro e w2 ⟨v2, rfl, ho2, hb2⟩
  have HO2 := Lib.hid ho2
  clear ho2
  go_wp2_with fail
  go_ret
  exact ⟨_, rfl, HO2.out, hb2⟩
end Go.Proofs.YtflpihedhccdfaaGreatDoor
