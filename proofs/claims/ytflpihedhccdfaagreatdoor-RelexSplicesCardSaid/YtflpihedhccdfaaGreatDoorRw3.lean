/-
  A lexer's text: by the program.
-/
import Derived.Test.YtflpihedhccdfaaGreatDoorProg
import Derived.Test.YtflpihedhccdfaaGreatDoorReg
import Derived.WalkKit
import Derived.WalkSpells
import Derived.WalkLawsBesides
import Derived.Lib.Hide
import Derived.Lib.MinMax
import Derived.Deep.QuietTactic
import Derived.BigQuiet
import Derived.OwnWalk
import Derived.Deep.AppendLies
import Derived.KernelRfl
import Derived.Laws.OwnMore
import Derived.Deep.OwnRows
import Derived.Test.YtflpihedhccdfaaGreatDoorLxM6
import Derived.Test.YtflpihedhccdfaaGreatDoorRw1
import Derived.Test.YtflpihedhccdfaaGreatDoorRw2
import Derived.Laws.LoneSync
import Derived.Test.YtflpihedhccdfaaGreatDoorBytes
import Derived.Test.YtflpihedhccdfaaGreatDoorLxM11
import Derived.ArgAppend
import Derived.Test.YtflpihedhccdfaaGreatDoorLxM2
set_option linter.unusedSimpArgs false
set_option linter.unusedVariables false
namespace Go.Proofs.YtflpihedhccdfaaGreatDoor
open Go.RowKit Go.Maps

def strCells (l : List ByteArray) : List Value := l.map Value.string
def textsOf (l : List Ln) : List ByteArray := l.map (·.text)
theorem textsOf_step {l : List Ln} {k : Nat} {x : Ln} (h : l[k]? = some x) : textsOf (l.take (k + 1)) = textsOf (l.take k) ++ [x.text] := by
  unfold textsOf; rw [take_one h, List.map_append]; rfl
theorem strCells_step {l : List Ln} {k : Nat} {x : Ln} (h : l[k]? = some x) : strCells (textsOf (l.take (k + 1))) = strCells (textsOf (l.take k)) ++ [.string x.text] := by
  rw [textsOf_step h]; simp [strCells]
def joinT (l : List Ln) : ByteArray := toB (join10 (listsOf (textsOf l)))

theorem lib_join : ∀ ps : List (List UInt8), Lib.join ps [10] = join10 ps
  | [] => rfl
  | [p] => by rw [Lib.join_one]; rfl
  | p :: q :: ps => by
    have ih := lib_join (q :: ps)
    rw [Lib.join_cons] at ih ⊢
    rw [join10, ← ih]
    simp [Lib.joinTail]
theorem joinT_le : ∀ l : List Ln, (join10 (listsOf (textsOf l))).length ≤ startL l l.length
  | [] => by simp [textsOf, listsOf, join10]
  | [x] => by simp [textsOf, listsOf, join10, startL]
  | x :: y :: l => by
    have ih := joinT_le (y :: l)
    unfold startL at ih ⊢
    rw [List.take_length] at ih ⊢
    simp only [textsOf, listsOf, List.map_cons, join10, List.sum_cons, List.length_append, List.length_cons, bytes_len] at ih ⊢
    omega
theorem holdsS_of_own {w : World} {base : Nat} {e : TypeId} {v : Value} {n : Nat} {l : List ByteArray} (h : w.ownsRow base e 1 v n (strCells l)) :
    ∃ A c, v = .slice A l.length c ∧ l.length ≤ c ∧ (l = [] ∨ ∃ g, A = some ⟨g, 0, none⟩ ∧ g < w.heap.size ∧ ∀ (j : Nat) (x : ByteArray), l[j]? = some x → w.cell? ⟨g, 0 + j, none⟩ = some (.string x)) := by
  have hn : n = l.length := by have h1 := h.1; simp [strCells] at h1; omega
  subst hn
  have hlt := ownBlock_lt h
  rcases h.2 with ⟨rfl, h0⟩ | ⟨g, cap, cur, rfl, _, _, hcap, _⟩
  · have : l = [] := List.eq_nil_of_length_eq_zero h0
    subst this
    exact ⟨none, 0, rfl, Nat.le_refl _, Or.inl rfl⟩
  · refine ⟨some ⟨g, 0, none⟩, cap, rfl, hcap, Or.inr ⟨g, rfl, hlt g rfl, fun k x hx => ?_⟩⟩
    have hc := h.cells (g := g) rfl
    have h1 : (strCells l)[k]? = some (.string x) := by simp [strCells, hx]
    have c1 := hc _ _ h1
    have ea : ∀ j, (⟨g, 0, none⟩ : Addr).add j = ⟨g, 0 + j, none⟩ := fun j => by
      unfold Addr.add
      split
      · rename_i h; subst h; rfl
      · rfl
    rw [ea] at c1
    exact c1

set_option maxRecDepth 100000 in
set_option maxHeartbeats 8000000 in
theorem whole_any (X : Nat) (A : Option Addr) (c : Nat) (l : List Ln) (w : World) (hl : l.length ≤ 1000000) (hsz : startL l l.length ≤ 1000000)
    (hX : w.cell? ⟨X, 0, none⟩ = some (.slice A l.length c)) (hH : HoldsL w A l) :
    Calls Tryz.prog 29 #[.pointer (some ⟨X, 0, none⟩)] w fun e w' => e = .returned (.string (joinT l)) ∧ Below w.heap.size w w' := by
  obtain ⟨i0, hi0, hz0, hz1, hz2⟩ := info_parts infoStr
  have lX := cell_lt hX
  go_enter Tryz.func29, Tryz.ntmps29
  go_wp2_with fail
  go_loopw [3, 11] (fun v i wr => ∃ (k : Nat), k ≤ l.length ∧ i = .int .i64 k ∧ wr.ownsRow w.heap.size 9 1 v k (strCells (textsOf (l.take k))) ∧ Below w.heap.size w wr) (fun _ i _ => l.length - (intOf i).toNat)
  case atStart => exact ⟨0, by omega, rfl, World.ownsRow_nil _ _ _ _, Below.refl _ _⟩
  case round =>
    obtain ⟨k, hk, rfl, hown, hlow⟩ := hrel
    by_cases hlt : k < l.length
    · have hx := List.getElem?_eq_getElem hlt
      obtain ⟨b, off, rfl, c1, c2⟩ := (hH.below hlow) k l[k] hx
      have hT := strCells_step hx
      generalize l[k] = x at *
      have HT := Lib.hid hT
      have HX := Lib.hid hx
      clear hx hT
      have hsw := hlow.size
      go_wp2_with (at_builtin; go_must (refine wpList_append_own _ rfl _ _ 70 rfl w.heap.size 9 i0 _ 1 16 Tryz.underlying70 hi0 hz0 hz1 hz2 rfl (by decide) u3 k _ rfl ((hown.alloc _).alloc _) ⟨wr.heap.size + 1, 0, none⟩ 1 1 [.string x.text] rfl rfl (by have := cell_one_new (wr.alloc (.cells #[.string x.text, .slice x.row x.n x.c] 75)) (.string x.text) 9; simpa using this) (by simp [Value.oneCell']) (by unfold maxLen; omega) (by omega) (by simp; omega) ?_); go_must (intro v1 w3 hown3 hg3 _))
      go_roundw
      case rel =>
        refine ⟨k + 1, by omega, by go_num, ?_, ((hlow.alloc hsw _).alloc (by simp; omega) _).grown hg3 (by simp; omega) (ownBlock_ge hown)⟩
        rw [HT.out]
        exact hown3
      case measure => simp [intOf]; omega
    · obtain rfl : k = l.length := by omega
      rw [List.take_length] at hown
      obtain ⟨A2, c2, rfl, hcap, hways⟩ := holdsS_of_own hown
      have hlen : (textsOf l).length = l.length := by simp [textsOf]
      have hJ : Calls Tryz.prog 41 #[.slice A2 (textsOf l).length c2, .string ⟨#[10]⟩] wr fun e w' => e = .returned (.string (joinT l)) ∧ Below wr.heap.size wr w' := by
        rcases hways with h0 | ⟨g, rfl, hg, hcells⟩
        · have hj : joinT l = ⟨#[]⟩ := by unfold joinT; rw [h0]; rfl
          rw [h0, hj]
          exact (Lay_strings_Join_none A2 c2 ⟨#[10]⟩ wr).mono fun e w' ⟨h1, h2⟩ => ⟨h1, h2 ▸ Below.refl _ _⟩
        · have hl10 : (⟨#[10]⟩ : ByteArray).data.toList = [10] := rfl
          have hjl := joinT_le l
          have hj := Lay_strings_Join g 0 c2 (textsOf l) ⟨#[10]⟩ wr hcells hg (by omega) hcap (by rw [hl10, lib_join]; unfold listsOf at hjl; omega)
          rw [hl10, lib_join] at hj
          exact hj
      rw [hlen] at hJ
      try rw [hlen]
      have HJ := Lib.hid hJ
      clear hJ hways hown
      go_wp2_with fail
      refine HJ.out.mono ?_
      rintro e w2 ⟨rfl, hb2⟩
      go_wp2_with fail
      go_ret
      exact ⟨rfl, hlow.trans (hb2.mono hlow.size)⟩
end Go.Proofs.YtflpihedhccdfaaGreatDoor
/-
  The count of lines lexed: sync/atomic's Add and Load.
-/
namespace Go.Proofs.YtflpihedhccdfaaGreatDoor
open Go.RowKit Go.Maps

set_option maxRecDepth 100000 in
theorem Add_any (X o : Nat) (q d : Int) (w : World) (hc : w.cell? ⟨X, o, none⟩ = some (.int .i64 q)) (hz : w.frozen? ⟨X, o, none⟩ = false) (hq : -9223372036854775808 ≤ q + d) (hq2 : q + d ≤ 9223372036854775807) :
    Calls Tryz.prog 39 #[.pointer (some ⟨X, o, none⟩), .int .i64 d] w fun e w' => e = .returned (.int .i64 (q + d)) ∧ w' = w.setCell ⟨X, o, none⟩ (.int .i64 (q + d)) := by
  have hs : (Op.intArith .add .i64 q d).run Tryz.prog w = .ok (.int .i64 (q + d)) w := by
    have e2 : IntKind.i64.wrap (q + d) = q + d := by rw [IntKind.wrap_i64]; omega
    simp [Op.intArith, e2]
  have hA := run_call_add (P := Tryz.prog) Tryz.func57 (by kernel_rfl) (by kernel_rfl) (by kernel_rfl) .i64 (by kernel_rfl) hc hz hs
  go_enter Tryz.func39, Tryz.ntmps39
  go_wp2_with fail
  go_ret
  exact ⟨rfl, rfl⟩

set_option maxRecDepth 100000 in
theorem Load_any (X o : Nat) (q : Int) (w : World) (hc : w.cell? ⟨X, o, none⟩ = some (.int .i64 q)) :
    Calls Tryz.prog 32 #[.pointer (some ⟨X, o, none⟩)] w fun e w' => e = .returned (.int .i64 q) ∧ w' = w := by
  have hA := run_call_load (P := Tryz.prog) Tryz.func44 (by kernel_rfl) (by kernel_rfl) (by kernel_rfl) .i64 (by kernel_rfl) hc
  go_enter Tryz.func32, Tryz.ntmps32
  go_wp2_with fail
  go_ret
  exact ⟨rfl, rfl⟩
end Go.Proofs.YtflpihedhccdfaaGreatDoor
/-
  Lines are lexed: by the program.
-/
namespace Go.Proofs.YtflpihedhccdfaaGreatDoor
open Go.RowKit Go.Maps

/-- The lines' tokens are theirs, in rows of their own. -/
def RightL (w : World) (l : List Ln) : Prop := ∀ x ∈ l, x.n = (dLine x.text).length ∧ ∃ base, w.ownsRow base 55 3 (.slice x.row x.n x.c) x.n (tokCells (dLine x.text))
theorem RightL.below {w w' : World} {l : List Ln} (h : RightL w l) (hb : Below w.heap.size w w') : RightL w' l := fun x hx => by
  obtain ⟨h1, base, h2⟩ := h x hx
  exact ⟨h1, base, own_below h2 hb⟩
/-- A block of another type may change. -/
theorem RightL.other {w w' : World} {l : List Ln} {q : Nat} {cs : Array Value} {t : TypeId} {fr : Nat × Nat} (h : RightL w l) (hg : w.grownBy w' (some q)) (hq : w.heap[q]? = some (.cells cs t fr)) (hne : t ≠ 55) : RightL w' l := fun x hx => by
  obtain ⟨h1, base, h2⟩ := h x hx
  exact ⟨h1, base, h2.kept hg (Or.inr (own_apart_cells h2 hq hne))⟩
theorem own_apart_own {w : World} {b b2 : Nat} {e t : TypeId} {s1 s2 : Nat} {v u : Value} {n m : Nat} {xs ys : List Value} (h : w.ownsRow b e s1 v n xs) (k : w.ownsRow b2 t s2 u m ys) (hne : t ≠ e) : v.ownBlock = none ∨ v.ownBlock ≠ u.ownBlock := by
  rcases k.2 with ⟨rfl, _⟩ | ⟨g, cap, cur, rfl, hg, hgg, _⟩
  · cases hv : v.ownBlock <;> simp [Value.ownBlock]
  · exact Or.inr (own_apart_cells h hgg hne)

set_option maxRecDepth 100000 in
set_option maxHeartbeats 8000000 in
theorem lex_any (X : Nat) (sl : Value) (q : Int) (B : Option Addr) (cB : Nat) (ss : List ByteArray) (w : World) (hs : ss.length ≤ 1000000) (hsz : ∀ s ∈ ss, s.size ≤ 1000000) (hq : 0 ≤ q ∧ q ≤ 1000000000)
    (hX : w.heap[X]? = some (.cells #[sl, .int .i64 q] 68 (0, 0))) (hB : HoldsS w B ss) (hT : Tabs w) :
    Calls Tryz.prog 27 #[.pointer (some ⟨X, 0, none⟩), .slice B ss.length cB] w fun e w' => ∃ v ls, e = .returned v ∧ ls.length = ss.length ∧ textsOf ls = ss ∧ w'.ownsRow w.heap.size 75 2 v ss.length (lnCells ls) ∧ RightL w' ls ∧
      w.grownBy w' (some X) ∧ w'.heap[X]? = some (.cells #[sl, .int .i64 (q + ss.length)] 68 (0, 0)) := by
  obtain ⟨i0, hi0, hz0, hz1, hz2⟩ := info_parts infoLine
  have lX : X < w.heap.size := (Array.getElem?_eq_some_iff.1 hX).1
  have HT := Lib.hid hT
  clear hT
  go_enter Tryz.func27, Tryz.ntmps27
  go_wp2_with fail
  go_loopw [5, 10] (fun v i wr => ∃ (k : Nat) (ls : List Ln), k ≤ ss.length ∧ i = .int .i64 k ∧ ls.length = k ∧ textsOf ls = ss.take k ∧ wr.ownsRow w.heap.size 75 2 v k (lnCells ls) ∧ RightL wr ls ∧ Below w.heap.size w wr) (fun _ i _ => ss.length - (intOf i).toNat)
  case atStart => exact ⟨0, [], by omega, rfl, rfl, by simp [textsOf], World.ownsRow_nil _ _ _ _, fun x hx => by simp at hx, Below.refl _ _⟩
  case round =>
    obtain ⟨k, ls, hk, rfl, hkl, htx, hown, hR, hlow⟩ := hrel
    by_cases hlt : k < ss.length
    · have hx := List.getElem?_eq_getElem hlt
      obtain ⟨b, off, rfl, c1⟩ := (hB.below hlow) k ss[k] hx
      have hxs := hsz _ (List.getElem_mem hlt)
      have htk : ss.take (k + 1) = ss.take k ++ [ss[k]] := take_one hx
      generalize ss[k] = x at *
      have hLn := Line_any x wr hxs (HT.out.below hlow)
      have HLn := Lib.hid hLn
      have hsw := hlow.size
      have HK := Lib.hid htk
      have HO := Lib.hid hown
      have HR := Lib.hid hR
      clear hLn htk hown hR hx
      go_wp2_with fail
      refine HLn.out.mono ?_
      rintro e w2 ⟨v2, rfl, ho2, hb2⟩
      obtain ⟨A2, c2, rfl, -, -, hc2⟩ := holdsT_of_own ho2
      have hO2 := own_below HO.out hb2
      have hR2 := HR.out.below hb2
      have hsw2 := hb2.size
      have HO2 := Lib.hid ho2
      clear ho2 HLn HO HR
      go_wp2_with (at_builtin; go_must (refine wpList_append_own _ rfl _ _ 59 rfl w.heap.size 75 i0 _ 2 40 Tryz.underlying59 hi0 hz0 hz1 hz2 rfl (by decide) u5 k _ rfl (hO2.alloc _) ⟨w2.heap.size, 0, none⟩ 1 1 [.string x, .slice A2 (dLine x).length c2] rfl rfl (World.news_of_block (cs := #[.string x, .slice A2 (dLine x).length c2]) (t := 75) (fr := (0, 0)) (heap_alloc_new w2 _)) (by simp [Value.oneCell']) (by unfold maxLen; omega) (by omega) (by simp; omega) ?_); go_must (intro v1 w3 hown3 hg3 _))
      go_roundw
      case rel =>
        have hbA : Below w2.heap.size w2 (w2.alloc (.cells #[.string x, .slice A2 (dLine x).length c2] 75)) := below_new w2 _
        refine ⟨k + 1, ls ++ [⟨x, A2, (dLine x).length, c2⟩], by omega, by go_num, by simp [hkl], ?_, ?_, ?_, (((hlow.trans (hb2.mono hsw)).alloc (by omega) _).grown hg3 (by simp; omega) (ownBlock_ge hO2))⟩
        · rw [HK.out, ← htx]; simp [textsOf]
        · rw [lnCells_append, lnCells_one]; exact hown3
        · have hkeep : ∀ base (y : Ln), w2.ownsRow base 55 3 (.slice y.row y.n y.c) y.n (tokCells (dLine y.text)) → w3.ownsRow base 55 3 (.slice y.row y.n y.c) y.n (tokCells (dLine y.text)) := fun base y hy => by
            exact (own_below hy hbA).kept hg3 (own_apart_own (own_below hy hbA) (own_below hO2 hbA) (by decide))
          intro y hy
          rcases List.mem_append.1 hy with hy | hy
          · obtain ⟨h1, base, h2⟩ := hR2 y hy
            exact ⟨h1, base, hkeep base y h2⟩
          · obtain rfl := List.mem_singleton.1 hy
            exact ⟨rfl, wr.heap.size, hkeep _ _ HO2.out⟩
      case measure => simp [intOf]; omega
    · obtain rfl : k = ss.length := by omega
      rw [List.take_length] at htx
      have hXr := (hlow.block X lX).trans hX
      have c1 : wr.cell? ⟨X, 1, none⟩ = some (.int .i64 q) := by simp [World.cell?, hXr]
      have z1 : wr.frozen? ⟨X, 1, none⟩ = false := frozen_of_row wr _ 1 _ _ hXr
      have hA := Add_any X 1 q ss.length wr c1 z1 (by omega) (by omega)
      have HA := Lib.hid hA
      obtain ⟨A5, c5, rfl⟩ := owns_slice hown
      have HO := Lib.hid hown
      have HR := Lib.hid hR
      have HXr := Lib.hid hXr
      clear hA hown hR hXr
      go_wp2_with fail
      refine HA.out.mono ?_
      rintro e w2 ⟨rfl, rfl⟩
      have hg2 := grown_setCell wr ⟨X, 1, none⟩ (.int .i64 (q + ss.length))
      have hO2 := HO.out.kept hg2 (Or.inr (own_apart_cells HO.out HXr.out (by decide)))
      have hR2 := HR.out.other hg2 HXr.out (by decide)
      have hX2 := heap_setCell_same wr X 1 _ _ (.int .i64 (q + ss.length)) HXr.out
      have hsw := hlow.size
      go_wp2_with fail
      go_ret
      refine ⟨_, ls, rfl, hkl, htx, hO2, hR2, ⟨hlow.os, hlow.tape, hlow.output, by simpa using hsw, fun j hj hne => ?_⟩, ?_⟩
      · exact (hg2.block j (by omega) hne).trans (hlow.block j hj)
      · rw [hX2]; simp
end Go.Proofs.YtflpihedhccdfaaGreatDoor
/-
  A new lexer: by the program.
-/
namespace Go.Proofs.YtflpihedhccdfaaGreatDoor
open Go.RowKit Go.Maps

/-- The lexer at X keeps the text t, and has lexed q lines. -/
def IsLex (w : World) (X : Nat) (t : ByteArray) (q : Int) : Prop :=
  ∃ base v ls, w.heap[X]? = some (.cells #[v, .int .i64 q] 68 (0, 0)) ∧ w.ownsRow base 75 2 v ls.length (lnCells ls) ∧ textsOf ls = piecesB t ∧ RightL w ls
/-- The same, the row's base named. -/
def IsLexAt (w : World) (base X : Nat) (t : ByteArray) (q : Int) : Prop :=
  ∃ v ls, w.heap[X]? = some (.cells #[v, .int .i64 q] 68 (0, 0)) ∧ w.ownsRow base 75 2 v ls.length (lnCells ls) ∧ textsOf ls = piecesB t ∧ RightL w ls
theorem own_mono {w : World} {b b' : Nat} {e : TypeId} {size : Nat} {v : Value} {n : Nat} {xs : List Value} (h : w.ownsRow b e size v n xs) (hb : b' ≤ b) : w.ownsRow b' e size v n xs := by
  refine ⟨h.1, ?_⟩
  rcases h.2 with h0 | ⟨g, cap, cur, hv, hg, rest⟩
  · exact .inl h0
  · exact .inr ⟨g, cap, cur, hv, Nat.le_trans hb hg, rest⟩
theorem IsLex.below {w w' : World} {X : Nat} {t : ByteArray} {q : Int} (h : IsLex w X t q) (hb : Below w.heap.size w w') : IsLex w' X t q := by
  obtain ⟨base, v, ls, h1, h2, h3, h4⟩ := h
  exact ⟨base, v, ls, (hb.block _ (Array.getElem?_eq_some_iff.1 h1).1).trans h1, own_below h2 hb, h3, h4.below hb⟩

theorem pieces_le (s : ByteArray) : (piecesB s).length ≤ s.size + 1 := by
  unfold piecesB
  rw [List.length_map, lines_len]
  have := List.count_le_length (a := (10 : UInt8)) (l := s.data.toList)
  rw [bytes_len] at this
  omega
theorem piece_small {s p : ByteArray} {n : Nat} (h : (piecesB s)[n]? = some p) : p.size ≤ s.size := by
  obtain ⟨st, _, _, h3, _⟩ := piece_lies h
  omega
theorem row_string {w : World} {b : Nat} {ps : List ByteArray} {T : TypeId} {fr : Nat × Nat} (h : w.heap[b]? = some (.cells (ps.map Value.string).toArray T fr)) : ∀ (k : Nat) (p : ByteArray), ps[k]? = some p → w.cell? ⟨b, k, none⟩ = some (.string p) := fun k p hp => by
  simp [World.cell?, h, hp]

set_option maxRecDepth 100000 in
set_option maxHeartbeats 4000000 in
theorem New_full (s : ByteArray) (a d : Addr) (w : World) (hs : 4000 < s.size) (hs2 : s.size ≤ maxLen) (hL : Laid5 a d w) :
    Calls Tryz.prog 11 #[.string s] w fun e w' => e = .returned (.tuple #[.pointer none, .int .i64 11]) ∧ w' = w := by
  have hg := hL.full
  have HL := Lib.hid (told_full a d w hL)
  unfold maxLen at hs2
  clear hL
  go_enter Tryz.func11, Tryz.ntmps11
  go_wp2_with fail
  refine HL.out.mono ?_
  rintro e w2 ⟨rfl, rfl⟩
  go_wp2_with fail
  go_ret2
  exact ⟨rfl, rfl⟩

set_option maxRecDepth 100000 in
set_option maxHeartbeats 8000000 in
theorem New_any (s : ByteArray) (w : World) (hs : s.size ≤ 4000) (hT : Tabs w) :
    Calls Tryz.prog 11 #[.string s] w fun e w' => e = .returned (.tuple #[.pointer (some ⟨w.heap.size, 0, none⟩), .int .i64 0]) ∧ IsLexAt w' w.heap.size w.heap.size s (piecesB s).length ∧ Below w.heap.size w w' := by
  have HT := Lib.hid hT
  clear hT
  go_enter Tryz.func11, Tryz.ntmps11
  go_upto_region 4 with fail
  have hX1 := heap_alloc_new w (.cells #[.slice none 0 0, .int .i64 0] 68)
  have hb1 := below_new w (.cells #[.slice none 0 0, .int .i64 0] 68)
  have hz1 : (w.alloc (.cells #[.slice none 0 0, .int .i64 0] 68)).heap.size = w.heap.size + 1 := by simp
  generalize w.alloc (.cells #[.slice none 0 0, .int .i64 0] 68) = w1 at *
  have HX1 := Lib.hid hX1
  have HB1 := Lib.hid hb1
  have HZ1 := Lib.hid hz1
  clear hX1 hb1 hz1
  obtain ⟨V, hV⟩ : ∃ V, w1.alloc (.cells ((piecesB s).map Value.string).toArray 9) = V := ⟨_, rfl⟩
  have hbV : Below w1.heap.size w1 V := by rw [← hV]; exact below_new _ _
  have hrow : V.heap[w1.heap.size]? = some (.cells ((piecesB s).map Value.string).toArray 9 (0, 0)) := by rw [← hV]; exact heap_alloc_new _ _
  have hsV : V.heap.size = w1.heap.size + 1 := by rw [← hV]; simp
  have hXV : V.heap[w.heap.size]? = some (.cells #[.slice none 0 0, .int .i64 0] 68 (0, 0)) := (hbV.block _ (by have := HZ1.out; omega)).trans HX1.out
  have hHV : HoldsS V (some ⟨w1.heap.size, 0, none⟩) (piecesB s) := fun k x hx => ⟨_, 0, rfl, by rw [Nat.zero_add]; exact row_string hrow k x hx⟩
  have hTV : Tabs V := (HT.out.below HB1.out).below hbV
  have hcount := pieces_le s
  have HLx : Hid (∀ W', Below V.heap.size V W' → Calls Tryz.prog 27 #[.pointer (some ⟨w.heap.size, 0, none⟩), .slice (some ⟨w1.heap.size, 0, none⟩) (piecesB s).length (piecesB s).length] W' fun e w' => ∃ v ls, e = .returned v ∧ ls.length = (piecesB s).length ∧ textsOf ls = piecesB s ∧
      w'.ownsRow W'.heap.size 75 2 v (piecesB s).length (lnCells ls) ∧ RightL w' ls ∧ W'.grownBy w' (some w.heap.size) ∧ w'.heap[w.heap.size]? = some (.cells #[.slice none 0 0, .int .i64 (0 + (piecesB s).length)] 68 (0, 0))) :=
    Lib.hid fun W' hb => lex_any w.heap.size _ 0 _ _ (piecesB s) W' (by omega) (fun p hp => by obtain ⟨k, hk⟩ := List.mem_iff_getElem?.1 hp; have := piece_small hk; omega) (by omega) ((hb.block _ (by have := HZ1.out; omega)).trans hXV) (hHV.below hb) (hTV.below hb)
  have HSp : Hid (Calls Tryz.prog 28 #[.string s, .string ⟨#[10]⟩] w1.drew fun e w' => e = .returned (.slice (some ⟨w1.heap.size, 0, none⟩) (piecesB s).length (piecesB s).length) ∧ w' = V.drew) := Lib.hid ((split_any s w1.drew (by omega)).mono fun e w' ⟨h1, h2⟩ => ⟨h1, by rw [h2, ← hV]; rfl⟩)
  have HsV := Lib.hid hsV
  have HbV := Lib.hid hbV
  clear hV hbV hrow hsV hXV hHV hTV
  obtain ⟨ps, hps⟩ : ∃ ps, ps = piecesB s := ⟨_, rfl⟩
  rw [← hps] at HLx HSp hcount
  have HPs : Hid (ps = piecesB s) := Lib.hid hps
  clear hps
  go_region_with (first | (go_at_call 28; refine HSp.out.mono ?_; rintro e w' ⟨rfl, rfl⟩) | (go_at_call 27; refine (HLx.out _ (Below.refl _ _).drew).mono ?_; rintro e w3 ⟨v3, ls3, rfl, hl3, ht3, ho3, hr3, hg3, hx3⟩; obtain ⟨A3, k3, rfl⟩ := owns_slice ho3; have c3 : w3.cell? ⟨w.heap.size, 0, none⟩ = some (.slice none 0 0) := by {simp [World.cell?, hx3]}; have z3 : w3.frozen? ⟨w.heap.size, 0, none⟩ = false := frozen_of_row w3 _ 0 _ _ hx3))
  all_goals (
    have hg4 := grown_setCell w3 ⟨w.heap.size, 0, none⟩ (.slice A3 ps.length k3)
    have hx4 := heap_setCell_same w3 w.heap.size 0 _ _ (.slice A3 ps.length k3) hx3
    have ho4 := ho3.kept hg4 (Or.inr (own_apart_cells ho3 hx3 (by decide)))
    have hr4 := hr3.other hg4 hx3 (by decide)
    have hfin : IsLexAt (w3.setCell ⟨w.heap.size, 0, none⟩ (.slice A3 ps.length k3)) w.heap.size w.heap.size s ps.length := by
      refine ⟨.slice A3 ps.length k3, ls3, by rw [hx4]; simp, by rw [hl3]; exact own_mono ho4 (by show w.heap.size ≤ V.heap.size; have := HsV.out; have := HZ1.out; omega), ?_, hr4⟩
      rw [ht3]
      exact HPs.out
    have hlow : Below w.heap.size w (w3.setCell ⟨w.heap.size, 0, none⟩ (.slice A3 ps.length k3)) := by
      have h1 : Below w.heap.size w V.drew := (HB1.out.trans (HbV.out.mono (by have := HZ1.out; omega))).drew
      exact (h1.grown hg3 h1.size (fun k e => by cases e; exact Nat.le_refl _)).setCell (p := ⟨w.heap.size, 0, none⟩) (Nat.le_refl _) _
    have HF := Lib.hid hfin
    have HW := Lib.hid hlow
    clear hg4 hx4 ho4 hr4 hfin hlow hx3 ho3 hr3 hg3 c3 z3
    go_wp2_with fail
    go_ret2
    exact ⟨rfl, by rw [← HPs.out]; exact HF.out, HW.out⟩)
end Go.Proofs.YtflpihedhccdfaaGreatDoor
/-
  A lexer in memory, its row named; what changes of it, what stays of another one.
-/
namespace Go.Proofs.YtflpihedhccdfaaGreatDoor
open Go Go.RowKit

/-- The lexer at X keeps the text t in the row v, whose lines are ls, and has lexed q lines. -/
structure LexV (w : World) (base X : Nat) (v : Value) (ls : List Ln) (t : ByteArray) (q : Int) : Prop where
  at_ : w.heap[X]? = some (.cells #[v, .int .i64 q] 68 (0, 0))
  own : w.ownsRow base 75 2 v ls.length (lnCells ls)
  txt : textsOf ls = piecesB t
  right : RightL w ls
theorem LexV.is {w : World} {base X : Nat} {v : Value} {ls : List Ln} {t : ByteArray} {q : Int} (h : LexV w base X v ls t q) : IsLex w X t q := ⟨base, v, ls, h.at_, h.own, h.txt, h.right⟩
theorem LexV.below {w w' : World} {base X : Nat} {v : Value} {ls : List Ln} {t : ByteArray} {q : Int} (h : LexV w base X v ls t q) (hb : Below w.heap.size w w') : LexV w' base X v ls t q :=
  ⟨(hb.block _ (Array.getElem?_eq_some_iff.1 h.at_).1).trans h.at_, own_below h.own hb, h.txt, h.right.below hb⟩
/-- With a base. -/
def IsLexB (w : World) (base X : Nat) (t : ByteArray) (q : Int) : Prop := ∃ v ls, LexV w base X v ls t q
theorem IsLexAt.lex {w : World} {base X : Nat} {t : ByteArray} {q : Int} (h : IsLexAt w base X t q) : IsLexB w base X t q := by obtain ⟨v, ls, h1, h2, h3, h4⟩ := h; exact ⟨v, ls, h1, h2, h3, h4⟩
theorem IsLexB.is {w : World} {base X : Nat} {t : ByteArray} {q : Int} (h : IsLexB w base X t q) : IsLex w X t q := by obtain ⟨v, ls, h⟩ := h; exact h.is
theorem IsLexB.below {w w' : World} {base X : Nat} {t : ByteArray} {q : Int} (h : IsLexB w base X t q) (hb : Below w.heap.size w w') : IsLexB w' base X t q := by obtain ⟨v, ls, h⟩ := h; exact ⟨v, ls, h.below hb⟩
theorem IsLexB.mono {w : World} {b b' X : Nat} {t : ByteArray} {q : Int} (h : IsLexB w b X t q) (hb : b' ≤ b) : IsLexB w b' X t q := by obtain ⟨v, ls, h⟩ := h; exact ⟨v, ls, h.at_, own_mono h.own hb, h.txt, h.right⟩

/-- Nothing has changed but the lexer's cells and its row. -/
structure ButLex (w w' : World) (X : Nat) (v : Value) : Prop where
  os : w'.os = w.os
  tape : w'.tape = w.tape
  output : w'.output = w.output
  size : w.heap.size ≤ w'.heap.size
  block : ∀ k, k < w.heap.size → k ≠ X → v.ownBlock ≠ some k → w'.heap[k]? = w.heap[k]?
theorem ButLex.of_below {w w' : World} {X : Nat} {v : Value} (hb : Below w.heap.size w w') : ButLex w w' X v := ⟨hb.os, hb.tape, hb.output, hb.size, fun k hk _ _ => hb.block k hk⟩
theorem ButLex.of_grown {w w' : World} {X : Nat} {v : Value} (hb : w.grownBy w' (some X)) : ButLex w w' X v := ⟨hb.os, hb.tape, hb.output, hb.size, fun k hk hx _ => hb.block k hk (fun e => hx (by simpa using e))⟩
theorem ButLex.of_row {w w' : World} {X : Nat} {v : Value} (hb : w.grownBy w' v.ownBlock) : ButLex w w' X v := ⟨hb.os, hb.tape, hb.output, hb.size, fun k hk _ hv => hb.block k hk (fun e => hv e.symm)⟩
theorem ButLex.trans {w w' w2 : World} {X : Nat} {v : Value} (h : ButLex w w' X v) (k : ButLex w' w2 X v) : ButLex w w2 X v :=
  ⟨k.os.trans h.os, k.tape.trans h.tape, k.output.trans h.output, Nat.le_trans h.size k.size, fun j hj h1 h2 => (k.block j (Nat.lt_of_lt_of_le hj h.size) h1 h2).trans (h.block j hj h1 h2)⟩
theorem ButLex.below {w0 w w' : World} {B X : Nat} {v : Value} (h : ButLex w w' X v) (hB : Below B w0 w) (hs : B ≤ w.heap.size) (hX : B ≤ X) (hv : ∀ k, v.ownBlock = some k → B ≤ k) : Below B w0 w' :=
  ⟨h.os.trans hB.os, h.tape.trans hB.tape, h.output.trans hB.output, Nat.le_trans hB.size h.size, fun k hk => (h.block k (by omega) (by omega) (fun e => by have := hv k e; omega)).trans (hB.block k hk)⟩
/-- Another lexer, in rows of its own, stays. -/
theorem LexV.other {w w' : World} {b X Y : Nat} {v u : Value} {ls : List Ln} {t : ByteArray} {q : Int} (h : LexV w b Y u ls t q) (hb : ButLex w w' X v) (hXY : Y ≠ X) (hv : ∀ k, v.ownBlock = some k → u.ownBlock ≠ some k)
    (hXt : ∃ cs, w.heap[X]? = some (.cells cs 68 (0, 0))) (hvt : ∀ k, v.ownBlock = some k → ∃ cs, w.heap[k]? = some (.cells cs 75 (0, 0))) : LexV w' b Y u ls t q := by
  obtain ⟨cX, hX⟩ := hXt
  have keep : ∀ k cs T fr, w.heap[k]? = some (.cells cs T fr) → k ≠ X → v.ownBlock ≠ some k → w'.heap[k]? = some (.cells cs T fr) := fun k cs T fr h1 h2 h3 => (hb.block k (Array.getElem?_eq_some_iff.1 h1).1 h2 h3).trans h1
  have row : ∀ {base size n : Nat} {T : TypeId} {z : Value} {xs : List Value}, w.ownsRow base T size z n xs → (∀ k, z.ownBlock = some k → k ≠ X ∧ v.ownBlock ≠ some k) → w'.ownsRow base T size z n xs := by
    intro base size n T z xs h1 h2
    refine ⟨h1.1, ?_⟩
    rcases h1.2 with h0 | ⟨g, cap, cur, rfl, hbg, hg, rest⟩
    · exact .inl h0
    · obtain ⟨k1, k2⟩ := h2 g rfl
      exact .inr ⟨g, cap, cur, rfl, hbg, keep g _ _ _ hg k1 k2, rest⟩
  have apart : ∀ {base size n : Nat} {T : TypeId} {z : Value} {xs : List Value}, T ≠ 68 → w.ownsRow base T size z n xs → ∀ k, z.ownBlock = some k → k ≠ X := by
    intro base size n T z xs hT h1 k hk e
    rcases h1.2 with ⟨rfl, _⟩ | ⟨g, cap, cur, rfl, hbg, hg, rest⟩
    · cases hk
    · cases hk
      subst e
      rw [hX] at hg
      cases hg
      exact hT rfl
  refine ⟨keep _ _ _ _ h.at_ hXY (fun e => ?_), row h.own (fun k hk => ⟨apart (by decide) h.own k hk, fun e => hv k e hk⟩), h.txt, fun x hx => ?_⟩
  · obtain ⟨cs, hc⟩ := hvt Y e
    have := h.at_
    rw [hc] at this
    cases this
  · obtain ⟨h1, base, h2⟩ := h.right x hx
    refine ⟨h1, base, row h2 (fun k hk => ⟨apart (by decide) h2 k hk, fun e => ?_⟩)⟩
    obtain ⟨cs, hc⟩ := hvt k e
    rcases h2.2 with ⟨hz, _⟩ | ⟨g, cap, cur, hz, hbg, hg, rest⟩
    · rw [hz] at hk; cases hk
    · rw [hz] at hk; cases hk
      rw [hc] at hg
      cases hg

/-- The sliced cells of a list of lines. -/
theorem HoldsL.slice {w : World} {g off : Nat} {l : List Ln} (h : HoldsL w (some ⟨g, off, none⟩) l) (k : Nat) : HoldsL w (some ⟨g, off + k * 2, none⟩) (l.drop k) := fun j x hx => by
  rw [List.getElem?_drop] at hx
  obtain ⟨b, o, e, h1, h2⟩ := h (k + j) x hx
  cases e
  exact ⟨_, _, rfl, by rw [← h1]; congr 2; omega, by rw [← h2]; congr 2; omega⟩
theorem HoldsL.take {w : World} {A : Option Addr} {l : List Ln} (h : HoldsL w A l) (k : Nat) : HoldsL w A (l.take k) := fun j x hx => h j x (by
  rw [List.getElem?_take] at hx
  split at hx
  · exact hx
  · cases hx)

theorem LexV.grownOther {w w' : World} {b Y : Nat} {u : Value} {ls : List Ln} {t : ByteArray} {q : Int} (h : LexV w b Y u ls t q) {r : Nat} {cs : Array Value} {T : TypeId} {fr : Nat × Nat} (hg : w.grownBy w' (some r)) (hr : w.heap[r]? = some (.cells cs T fr))
    (h1 : T ≠ 68) (h2 : T ≠ 75) (h3 : T ≠ 55) : LexV w' b Y u ls t q :=
  ⟨(hg.block Y (Array.getElem?_eq_some_iff.1 h.at_).1 (fun e => by
      have e' : Y = r := by simpa using e
      have h0 := h.at_
      rw [e', hr] at h0
      cases h0
      exact h1 rfl)).trans h.at_, h.own.kept hg (Or.inr (own_apart_cells h.own hr h2)), h.txt, h.right.other hg hr h3⟩
theorem ButLex.set {w w' : World} {X : Nat} {v : Value} (h : ButLex w w' X v) {a : Addr} (u : Value) (ha : w.heap.size ≤ a.block) : ButLex w (w'.setCell a u) X v :=
  ⟨h.os, h.tape, h.output, by simpa using h.size, fun k hk h1 h2 => (heap_setCell_other _ _ _ _ (by omega)).trans (h.block k hk h1 h2)⟩
theorem lnCells_set : ∀ (l : List Ln) (k : Nat) (x : Ln), k < l.length → ((lnCells l).set (k * 2) (.string x.text)).set (k * 2 + 1) (.slice x.row x.n x.c) = lnCells (l.set k x)
  | [], k, x, h => by simp at h
  | y :: l, 0, x, _ => by simp [lnCells, Ln.cells]
  | y :: l, k + 1, x, h => by
    have ih := lnCells_set l k x (by simpa using h)
    have e : ∀ (z : Ln) (m : List Ln), lnCells (z :: m) = .string z.text :: .slice z.row z.n z.c :: lnCells m := fun z m => by simp [lnCells, Ln.cells]
    rw [List.set_cons_succ, e, e, ← ih, show (k + 1) * 2 = k * 2 + 2 by omega, show k * 2 + 2 + 1 = k * 2 + 1 + 2 by omega]
    rfl
theorem set_parts {l : List Ln} {k : Nat} (x : Ln) (h : k < l.length) : l.set k x = l.take k ++ [x] ++ l.drop (k + 1) := by
  rw [List.set_eq_take_append_cons_drop, if_pos h]
  simp
theorem LexV.set3 {w : World} {b Y : Nat} {u : Value} {ls : List Ln} {t : ByteArray} {q : Int} (h : LexV w b Y u ls t q) {r : Nat} {cs : Array Value} {T : TypeId} {fr : Nat × Nat} (hr : w.heap[r]? = some (.cells cs T fr))
    (h1 : T ≠ 68) (h2 : T ≠ 75) (h3 : T ≠ 55) (b1 b2 b3 : Value) : LexV (((w.setCell ⟨r, 0, none⟩ b1).setCell ⟨r, 1, none⟩ b2).setCell ⟨r, 2, none⟩ b3) b Y u ls t q :=
  h.grownOther (r := r) ⟨rfl, rfl, rfl, by simp, fun k hk hne => by
    have e : k ≠ r := fun e => hne (by rw [e])
    rw [heap_setCell_other _ _ _ _ e, heap_setCell_other _ _ _ _ e, heap_setCell_other _ _ _ _ e]⟩ hr h1 h2 h3
/-- Blocks of other types stay. -/
def OthersL (w w' : World) : Prop := ∀ (k : Nat) (cs : Array Value) (T : TypeId) (fr : Nat × Nat), w.heap[k]? = some (.cells cs T fr) → T ≠ 68 → T ≠ 75 → w'.heap[k]? = some (.cells cs T fr)
theorem OthersL.trans {w w' w2 : World} (h : OthersL w w') (k : OthersL w' w2) : OthersL w w2 := fun j cs T fr hj h1 h2 => k j cs T fr (h j cs T fr hj h1 h2) h1 h2
theorem OthersL.own {w w' : World} (h : OthersL w w') {base size n : Nat} {T : TypeId} {z : Value} {xs : List Value} (k : w.ownsRow base T size z n xs) (h1 : T ≠ 68) (h2 : T ≠ 75) : w'.ownsRow base T size z n xs := by
  refine ⟨k.1, ?_⟩
  rcases k.2 with h0 | ⟨g, cap, cur, hv, hbg, hg, rest⟩
  · exact .inl h0
  · exact .inr ⟨g, cap, cur, hv, hbg, h g _ _ _ hg h1 h2, rest⟩
theorem LexV.others {w w' : World} {b X : Nat} {v : Value} {ls : List Ln} {t : ByteArray} {q : Int} (h : LexV w b X v ls t q) (hb : ButLex w w' X v) : OthersL w w' := fun k cs T fr hk h1 h2 => by
  refine (hb.block k (Array.getElem?_eq_some_iff.1 hk).1 (fun e => ?_) (fun e => own_apart_cells h.own hk h2 e)).trans hk
  subst e
  have h0 := h.at_
  rw [hk] at h0
  cases h0
  exact h1 rfl
end Go.Proofs.YtflpihedhccdfaaGreatDoor
/-
  A slice of lines appended to a row of lines of one's own; a run of it in memory.
-/
namespace Go.Proofs.YtflpihedhccdfaaGreatDoor
open Go Go.RowKit

theorem lnCells_one' (l : List Ln) : ∀ u ∈ lnCells l, u.oneCell' = true := by
  intro u hu
  simp only [lnCells, List.mem_flatMap, Ln.cells] at hu
  obtain ⟨x, _, hx⟩ := hu
  simp at hx
  rcases hx with rfl | rfl <;> rfl
theorem holdsL_cells {w : World} {b off : Nat} {l : List Ln} (h : HoldsL w (some ⟨b, off, none⟩) l) (j : Nat) (u : Value) (hj : (lnCells l)[j]? = some u) : w.cell? ((⟨b, off, none⟩ : Addr).add j) = some u := by
  have hlt : j < l.length * 2 := by rw [← lnCells_length]; exact (List.getElem?_eq_some_iff.1 hj).1
  have hk : j / 2 < l.length := by omega
  obtain ⟨b', off', e, c1, c2⟩ := h (j / 2) _ (List.getElem?_eq_getElem hk)
  cases e
  obtain ⟨t1, t2⟩ := lnCells_get l (j / 2) _ (List.getElem?_eq_getElem hk)
  rw [Addr.add_lit]
  have h3 : j = j / 2 * 2 ∨ j = j / 2 * 2 + 1 := by omega
  rcases h3 with e | e
  · rw [e] at hj ⊢
    rw [t1] at hj
    cases hj
    exact c1
  · rw [e] at hj ⊢
    rw [t2] at hj
    cases hj
    exact c2
theorem run_append_lns (base : Nat) (w : World) (i : TypeInfo) (z : Value) (hi : Tryz.prog.info? 75 = some i) (hz : i.zero = some z) (hsize : i.size = 2) (hby : i.bytes = 40) (hzs : z.cells.size = 2)
    (v : Value) (n : Nat) (xs : List Value) (hown : w.ownsRow base 75 2 v n xs) (B : Option Addr) (d : Nat) (m : List Ln) (hm : HoldsL w B m) (h1 : n ≤ 10000) (h2 : m.length ≤ 10000) (hbase : base ≤ w.heap.size) :
    ∃ v' w', (Builtin.append_ #[59, 59] 59 #[v, .slice B m.length d]).run Tryz.prog w = .ok v' w' ∧ w'.ownsRow base 75 2 v' (n + m.length) (xs ++ lnCells m) ∧ w.grownBy w' v.ownBlock := by
  cases B with
  | none =>
    have hn : m = [] := by
      cases m with
      | nil => rfl
      | cons x m =>
        obtain ⟨b, off, e, _⟩ := hm 0 x rfl
        cases e
    subst hn
    have ht := Tryz.underlying59
    have h : (Builtin.append_ #[59, 59] 59 #[v, .slice none 0 d]).run Tryz.prog w = .ok v w := by
      rcases hown.2 with ⟨rfl, rfl⟩ | ⟨g, cap, cur, rfl, _, _, hnc, _⟩
      · simp [Builtin.append_, run_underlying ht, sizeOf, typeInfo, hi, Builtin.lenOf, Builtin.firstCells, loadCells, loadCellsFrom]
      · simp [Builtin.append_, run_underlying ht, sizeOf, typeInfo, hi, Builtin.lenOf, Builtin.firstCells, hnc, storeCells, loadCells, loadCellsFrom]
    exact ⟨v, w, h, by simpa [lnCells] using hown, ⟨rfl, rfl, rfl, Nat.le_refl _, fun _ _ _ => rfl⟩⟩
  | some ad =>
    have hnews : ∀ j u, (lnCells m)[j]? = some u → w.cell? (ad.add j) = some u := fun j u hj => by
      have hlt : 0 < m.length := by
        have := (List.getElem?_eq_some_iff.1 hj).1
        rw [lnCells_length] at this
        omega
      obtain ⟨b, off, e, _⟩ := hm 0 _ (List.getElem?_eq_getElem hlt)
      cases e
      exact holdsL_cells hm j u hj
    obtain ⟨v', w', r1, r2, r3, _⟩ := run_append_own (P := Tryz.prog) w base 59 59 75 i z 2 40 Tryz.underlying59 hi hz hsize hby hzs (by decide) v n xs hown ad m.length d (lnCells m) (lnCells_length m) hnews (lnCells_one' m) (by unfold maxLen; omega) (by omega) hbase
    exact ⟨v', w', r1, r2, r3⟩

theorem wpList_append_lns {ops : Array Oper} {rest : List Oper} {o : Oper} {a : Act} {Q : Exit → Act → World → Prop} {w : World} (hgd : o.guard = none) (s x : Operand)
    (ho : o.op = .call { callee := .builtin .append, args := #[s, x], argTypes := #[59, 59] }) (hot : o.type = 59) (i : TypeInfo) (z : Value) (hi : Tryz.prog.info? 75 = some i) (hz : i.zero = some z) (hsize : i.size = 2) (hby : i.bytes = 40) (hzs : z.cells.size = 2)
    (base : Nat) (v : Value) (n : Nat) (xs : List Value) (hs : a.eval s = v) (hown : w.ownsRow base 75 2 v n xs) (B : Option Addr) (d : Nat) (m : List Ln) (hx : a.eval x = .slice B m.length d) (hm : HoldsL w B m) (h1 : n ≤ 10000) (h2 : m.length ≤ 10000) (hbase : base ≤ w.heap.size)
    (h : ∀ v' w', w'.ownsRow base 75 2 v' (n + m.length) (xs ++ lnCells m) → w.grownBy w' v.ownBlock → wpList Tryz.prog ops Q rest (a.put o.dst v') w') : wpList Tryz.prog ops Q (o :: rest) a w := by
  refine wpList_plain hgd fun K hK => ?_
  obtain ⟨v', w', hr, h3, h4⟩ := run_append_lns base w i z hi hz hsize hby hzs v n xs hown B d m hm h1 h2 hbase
  unfold Oper.wp execOp
  simp only [ho, hot, resolve, invoke, builtin, Sem.run_bind, Sem.run_pure, Result.andThen_ok, List.map_toArray, List.map_cons, List.map_nil, hs, hx, hr]
  exact hK _ _ (h v' w' h3 h4)
end Go.Proofs.YtflpihedhccdfaaGreatDoor
/-
  A text's first four thousand and ten bytes: by the laws of layer 1.
-/
namespace Go.Proofs.YtflpihedhccdfaaGreatDoor
open Go.RowKit

def cut4010 (s : ByteArray) : ByteArray := s.extract 0 (min s.size 4010)
theorem cut4010_size (s : ByteArray) : (cut4010 s).size ≤ 4010 := by
  unfold cut4010
  rw [ByteArray.size_extract]
  omega
set_option maxHeartbeats 4000000 in
theorem Cut_any (s : ByteArray) (w : World) (hs : s.size ≤ maxLen) :
    Calls Tryz.prog 10 #[.string s] w fun e w' => e = .returned (.string (cut4010 s)) ∧ w' = w := by
  unfold maxLen at hs
  unfold cut4010
  have e : (min (s.size : Int) 4010).toNat = min s.size 4010 := by omega
  go_enter Tryz.func10, Tryz.ntmps10
  go_wp2
  go_ret
  exact ⟨by rw [← e]; rfl, rfl⟩
end Go.Proofs.YtflpihedhccdfaaGreatDoor
