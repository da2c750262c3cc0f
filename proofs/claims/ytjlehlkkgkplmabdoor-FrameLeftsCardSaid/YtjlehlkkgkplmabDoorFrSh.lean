/-
  What the statements of layer 19 show, cut, take: by the program.
-/
import Derived.Test.YtjlehlkkgkplmabDoorProg
import Derived.Test.YtjlehlkkgkplmabDoorReg
import Derived.WalkKit
import Derived.WalkSpells
import Derived.WalkLawsBesides
import Derived.Lib.Hide
import Derived.Lib.MinMax
import Derived.Deep.QuietTactic
import Derived.BigQuiet
import Derived.OwnWalk
import Derived.Deep.AppendLies
import Derived.KernelRfl
import Derived.Test.YtjlehlkkgkplmabDoorFrM
import Derived.Test.YtjlehlkkgkplmabDoorFrL
import Derived.Test.YtjlehlkkgkplmabDoorRegZ
set_option linter.unusedSimpArgs false
set_option linter.unusedVariables false
namespace Go.Proofs.YtjlehlkkgkplmabDoor
open Go Go.RowKit

theorem beq_list_yes {a : ByteArray} {l : List UInt8} (h : a.data.toList = l) : (a.toList == l) = true := by
  rw [ByteArray.toList_eq, h]; simp
theorem beq_list_no {a : ByteArray} {l : List UInt8} (h : a.data.toList ≠ l) : (a.toList == l) = false := by
  rw [ByteArray.toList_eq]; simpa using h
theorem wp_append_run {P : Program} {w w' : World} {o : Oper} {a : Act} {K : Act → World → Prop} {Q : Exit → Act → World → Prop} {v u v' : Value} (s x : Operand) (t t2 : TypeId)
    (ho : o.op = .call { callee := .builtin .append, args := #[s, x], argTypes := #[t, t2] }) (hs : a.eval s = v) (hx : a.eval x = u) (hr : (Builtin.append_ #[t, t2] o.type #[v, u]).run P w = .ok v' w') (h : K (a.put o.dst v') w') : o.wp P a w K Q := by
  unfold Oper.wp execOp
  simp only [ho, resolve, invoke, builtin, Sem.run_bind, Sem.run_pure, Result.andThen_ok, List.map_toArray, List.map_cons, List.map_nil, hs, hx, hr]
  exact h
theorem wpList_append_run {P : Program} {w w' : World} {ops : Array Oper} {rest : List Oper} {o : Oper} {a : Act} {Q : Exit → Act → World → Prop} {v u v' : Value} (hgd : o.guard = none) (s x : Operand) (t t2 : TypeId)
    (ho : o.op = .call { callee := .builtin .append, args := #[s, x], argTypes := #[t, t2] }) (hs : a.eval s = v) (hx : a.eval x = u) (hr : (Builtin.append_ #[t, t2] o.type #[v, u]).run P w = .ok v' w') (h : wpList P ops Q rest (a.put o.dst v') w') : wpList P ops Q (o :: rest) a w :=
  wpList_plain hgd fun _ hK => wp_append_run s x t t2 ho hs hx hr (hK _ _ h)

def shT : ByteArray := ⟨#[67, 111, 110, 116, 101, 110, 116, 45, 76, 101, 110, 103, 116, 104, 58, 32, 50, 13, 10, 13, 10, 123, 125]⟩
theorem sh0 : putB ⟨#[123, 125]⟩ = (shT, 0) := by decide +kernel
theorem sh1 : splitB (shT ++ shT.extract 0 5) = ([⟨#[123, 125]⟩], shT.extract 0 5, false) := by decide +kernel
theorem sh2 : splitB ((⟨#[]⟩ : ByteArray) ++ shT.extract 0 10) = ([], shT.extract 0 10, false) := by decide +kernel
theorem sh3 : splitB (shT.extract 0 10 ++ shT.extract 10 23) = ([⟨#[123, 125]⟩], ⟨#[]⟩, false) := by decide +kernel
theorem sh4 : splitB ⟨#[76, 101, 110, 103, 116, 104, 58, 32, 50, 13, 10, 13, 10, 123, 125]⟩ = ([], ⟨#[]⟩, true) := by decide +kernel
theorem sh5 : shT.size = 23 := by decide

set_option maxRecDepth 100000 in
set_option maxHeartbeats 8000000 in
theorem shown_any (a : Addr) (w : World) (hL : LaidF a w) :
    Calls Tryd.prog 4 #[] w fun e w' => e = .returned (.bool true) ∧ Below w.heap.size w w' := by
  have HP : Hid (Calls Tryd.prog 9 #[.string ⟨#[123, 125]⟩] w fun e w' => e = .returned (.tuple #[.string shT, .int .i64 0]) ∧ Below w.heap.size w w') := Lib.hid (by
    have := Put_any ⟨#[123, 125]⟩ a w (by decide) hL
    rw [sh0] at this
    exact this)
  have HS1 := Lib.hid (fun W (hb : Below w.heap.size w W) => (by
    have := Split_any (shT ++ shT.extract 0 5) a W (by decide) (hL.below hb)
    rw [sh1] at this
    exact this : Calls Tryd.prog 10 #[.string (shT ++ shT.extract 0 5)] W fun e w' => ∃ v, e = .returned (.tuple #[v, .string (shT.extract 0 5), .int .i64 0]) ∧ w'.ownsRow (W.heap.size + 1) sK 1 v 1 (strCells [⟨#[123, 125]⟩]) ∧ Below W.heap.size W w'))
  have HS2 := Lib.hid (fun W (hb : Below w.heap.size w W) => (by
    have := Split_any ⟨#[76, 101, 110, 103, 116, 104, 58, 32, 50, 13, 10, 13, 10, 123, 125]⟩ a W (by decide) (hL.below hb)
    rw [sh4] at this
    exact this : Calls Tryd.prog 10 #[.string ⟨#[76, 101, 110, 103, 116, 104, 58, 32, 50, 13, 10, 13, 10, 123, 125]⟩] W fun e w' => ∃ v, e = .returned (.tuple #[v, .string ⟨#[]⟩, .int .i64 160]) ∧ w'.ownsRow (W.heap.size + 1) sK 1 v 0 (strCells []) ∧ Below W.heap.size W w'))
  have HF1 := Lib.hid (fun X W (hx : w.heap.size ≤ X) (hr : IsRd W X a ⟨#[]⟩ false) (hb : Below w.heap.size w W) => (by
    have := Feed_any X a ⟨#[]⟩ (shT.extract 0 10) w W (by decide) hr hL hb hx
    rw [sh2] at this
    exact this : Calls Tryd.prog 7 #[.pointer (some ⟨X, 0, none⟩), .string (shT.extract 0 10)] W fun e w' => ∃ v, e = .returned (.tuple #[v, .int .i64 0]) ∧ w'.ownsRow W.heap.size sK 1 v 0 (strCells []) ∧ W.grownBy w' (some X) ∧ IsRd w' X a (shT.extract 0 10) false))
  have HF2 := Lib.hid (fun X W (hx : w.heap.size ≤ X) (hr : IsRd W X a (shT.extract 0 10) false) (hb : Below w.heap.size w W) => (by
    have := Feed_any X a (shT.extract 0 10) (shT.extract 10 23) w W (by decide) hr hL hb hx
    rw [sh3] at this
    exact this : Calls Tryd.prog 7 #[.pointer (some ⟨X, 0, none⟩), .string (shT.extract 10 23)] W fun e w' => ∃ v, e = .returned (.tuple #[v, .int .i64 0]) ∧ w'.ownsRow W.heap.size sK 1 v 1 (strCells [⟨#[123, 125]⟩]) ∧ W.grownBy w' (some X) ∧ IsRd w' X a ⟨#[]⟩ false))
  have qT : (shT.toList == [67, 111, 110, 116, 101, 110, 116, 45, 76, 101, 110, 103, 116, 104, 58, 32, 50, 13, 10, 13, 10, 123, 125]) = true := beq_list_yes rfl
  have hTz := sh5
  generalize shT = T at *
  clear hL
  go_enter Tryd.func4, Tryd.ntmps4
  go_wp2_with fail
  refine HP.out.mono ?_
  rintro e w1 ⟨rfl, hb1⟩
  have HS1w := Lib.hid (HS1.out w1 hb1)
  have B1 := Lib.hid hb1
  clear hb1 HS1 HP
  go_wp2_with fail
  refine HS1w.out.mono ?_
  rintro e w2 ⟨v2, rfl, ho2, hb2⟩
  have B2 := Lib.hid (B1.out.trans (hb2.mono B1.out.size))
  have HO2 := Lib.hid ho2
  obtain ⟨A2, c2, rfl⟩ := owns_slice ho2
  clear hb2 ho2 HS1w
  have HN := Lib.hid (New_rd a w2)
  go_wp2_with fail
  refine HN.out.mono ?_
  rintro e w3 ⟨rfl, hr3, hb3⟩
  have B3 := Lib.hid (B2.out.trans (hb3.mono B2.out.size))
  have HO3 := Lib.hid (own_below HO2.out hb3)
  have HFw := Lib.hid (HF1.out w2.heap.size w3 B2.out.size hr3 B3.out)
  clear hb3 hr3 HN HF1
  go_wp2_with fail
  refine HFw.out.mono ?_
  rintro e w4 ⟨v4, rfl, ho4, hg4, hr4⟩
  have B4 := Lib.hid (below_grownX B3.out hg4 B3.out.size B2.out.size)
  have HO4 := Lib.hid (HO3.out.kept hg4 (Or.inr (fun e => by
    have h1 := ownBlock_lt HO2.out w2.heap.size e
    omega)))
  have HFx := Lib.hid (HF2.out w2.heap.size w4 B2.out.size hr4 B4.out)
  obtain ⟨A4, c4, rfl⟩ := owns_slice ho4
  clear hg4 hr4 HFw HF2 ho4
  go_wp2_with fail
  refine HFx.out.mono ?_
  rintro e w5 ⟨v5, rfl, ho5, hg5, hr5⟩
  have B5 := Lib.hid (below_grownX B4.out hg5 B4.out.size B2.out.size)
  have HO5 := Lib.hid (HO4.out.kept hg5 (Or.inr (fun e => by
    have h1 := ownBlock_lt HO2.out w2.heap.size e
    omega)))
  have HS2w := Lib.hid (HS2.out w5 B5.out)
  have HR5 := Lib.hid hr5
  obtain ⟨A5, c5, rfl⟩ := owns_slice ho5
  clear hg5 hr5 HFx HS2 ho5
  go_wp2_with fail
  refine HS2w.out.mono ?_
  rintro e w6 ⟨v6, rfl, ho6, hb6⟩
  have B6 := Lib.hid (B5.out.trans (hb6.mono B5.out.size))
  have HR6 := HR5.out.below hb6
  have ho := own_below HO5.out hb6
  obtain ⟨A7, c7, e7, -, hH, -⟩ := holdsS_of_own (l := [⟨#[123, 125]⟩]) ho
  cases e7
  obtain ⟨b, off, rfl, d0⟩ := hH 0 _ rfl
  rw [Nat.add_zero] at d0
  have HLf := Lib.hid (Left_rd w2.heap.size a ⟨#[]⟩ false w6 (by decide) HR6)
  obtain ⟨A6, c6, rfl⟩ := owns_slice ho6
  clear ho6 hb6 HR6 ho hH HS2w
  go_wp2_with fail
  refine HLf.out.mono ?_
  rintro e w7 ⟨rfl, rfl⟩
  go_wp2_with fail
  go_ret
  exact ⟨rfl, B6.out⟩

def cut400 (s : ByteArray) : ByteArray := s.extract 0 (min s.size 400)
theorem cut400_size (s : ByteArray) : (cut400 s).size ≤ 400 := by unfold cut400; rw [ByteArray.size_extract]; omega
def few400 (l : List ByteArray) (n : Nat) : List ByteArray := (l.take n).map cut400
theorem few400_len (l : List ByteArray) (n : Nat) : (few400 l n).length ≤ n := by unfold few400; rw [List.length_map, List.length_take]; omega
theorem few400_size (l : List ByteArray) (n : Nat) : ∀ x ∈ few400 l n, x.size ≤ 400 := by
  intro x hx
  unfold few400 at hx
  obtain ⟨y, _, rfl⟩ := List.mem_map.1 hx
  exact cut400_size y

set_option maxRecDepth 100000 in
set_option maxHeartbeats 8000000 in
theorem Few_any (n : Nat) (A : Option Addr) (c : Nat) (l : List ByteArray) (w : World) (hn : n ≤ 1000) (hl : l.length ≤ maxLen) (hs : ∀ (k : Nat) (x : ByteArray), l[k]? = some x → x.size ≤ maxLen) (hH : HoldsS w A l) :
    Calls Tryd.prog 5 #[.slice A l.length c, .int .i64 n] w fun e w' => ∃ v, e = .returned v ∧ w'.ownsRow w.heap.size sK 1 v (few400 l n).length (strCells (few400 l n)) ∧ Below w.heap.size w w' := by
  unfold maxLen at hl hs
  have HS := Lib.hid hs
  have HH := Lib.hid hH
  clear hs hH
  go_enter Tryd.func5, Tryd.ntmps5
  go_wp2_with fail
  go_loopw [5, 6] (fun v i wr => ∃ (k : Nat), i = .int .i64 k ∧ k ≤ l.length ∧ k ≤ n ∧ Hid (wr.ownsRow w.heap.size sK 1 v (few400 l k).length (strCells (few400 l k))) ∧ Hid (Below w.heap.size w wr)) (fun _ i _ => l.length - (intOf i).toNat)
  case atStart => exact ⟨0, rfl, by omega, by omega, Lib.hid (World.ownsRow_nil _ _ _ _), Lib.hid (Below.refl _ _)⟩
  case round =>
    obtain ⟨k, rfl, hk1, hk2, HO, HB⟩ := hrel
    have i0 : (0 : Int) ≤ (k : Int) := by omega
    obtain ⟨A5, c5, rfl⟩ := owns_slice HO.out
    by_cases h1 : k < l.length
    · have i1 : (k : Int) < (l.length : Int) := by omega
      by_cases h2 : k < n
      · have i2 : (k : Int) < (n : Int) := by omega
        have hx := List.getElem?_eq_getElem h1
        have hsx := HS.out k _ hx
        obtain ⟨b, off, rfl, c1⟩ := (HH.out.below HB.out) k l[k] hx
        have hF : few400 l (k + 1) = few400 l k ++ [cut400 l[k]] := by unfold few400; rw [take_one hx, List.map_append]; rfl
        have hfl := few400_len l k
        generalize l[k] = x at *
        have m0 : (0 : Int) ≤ min (x.size : Int) 400 := by omega
        have m1 : min (x.size : Int) 400 ≤ (x.size : Int) := by omega
        have m2 : (min (x.size : Int) 400).toNat = min x.size 400 := by omega
        have hE : x.extract 0 (min x.size 400) = cut400 x := rfl
        have hsz := HB.out.size
        have hbA : Below wr.heap.size wr ((wr.alloc (.cells #[.string (cut400 x)] sK)).drew) := (below_new wr _).drew
        have hgA : ((wr.alloc (.cells #[.string (cut400 x)] sK)).drew).heap[wr.heap.size]? = some (.cells #[.string (cut400 x)] sK (0, 0)) := heap_alloc_new wr _
        obtain ⟨A9, c9, w9, hrun, hN9, hgr9, _⟩ := push_str (x := cut400 x) (g := wr.heap.size) hgA (own_below HO.out hbA) (by omega) (by simp; omega)
        have HN9 := Lib.hid (show w9.ownsRow w.heap.size sK 1 (.slice A9 ((few400 l k).length + 1) c9) (few400 l (k + 1)).length (strCells (few400 l (k + 1))) by rw [hF]; exact hN9)
        have HB9 := Lib.hid (((HB.out.trans (hbA.mono hsz))).grown hgr9 (by simp; omega) (fun j e => ownBlock_ge HO.out j e))
        have c2 : (wr.alloc (.cells #[.string (cut400 x)] sK)).drew.cell? ⟨b, off + k, none⟩ = some (.string x) := (hbA.cell (p := ⟨b, off + k, none⟩) (cell_lt c1)).trans c1
        obtain ⟨b', off', e', c3⟩ := (HH.out.below HB9.out) k x hx
        cases e'
        clear hx hF hN9 hgr9 hgA
        go_wp2_with fail
        refine wp_region_ordz (S := fun w' => w'.cell? ⟨b, off + k, none⟩ = some (.string x)) [0, 1, 2, 3, 4, 5, 6, 7, 8, 9, 10, 11] [12, 13, 14] 14 (by kernel_rfl) (by kernel_rfl) (fun _ _ _ _ _ h => h) c1 ?_
        simp only [pick, List.filterMap_cons, List.filterMap_nil, List.getElem?_toArray, List.getElem?_cons_zero, List.getElem?_cons_succ]
        repeat (refine wpHead_step (v := ?_) rfl ?_ ?_; rotate_left; (focus (rintro w1 d1; go_simp; try with_reducible rfl)); simp only [Act.put, List.setIfInBounds_toArray, List.set_cons_zero, List.set_cons_succ])
        refine wpHead_nil ?_
        refine wpTailZ_step rfl (fun K hK => ?_)
        go_wp2_with fail
        refine hK _ _ c2 ?_
        clear hK K
        try simp only [Act.put, List.setIfInBounds_toArray, List.set_cons_zero, List.set_cons_succ]
        refine wpTailZ_step rfl (fun K hK => ?_)
        refine wp_append_run _ _ 22 22 rfl rfl rfl hrun ?_
        refine hK _ _ c3 ?_
        clear hK K
        try simp only [Act.put, List.setIfInBounds_toArray, List.set_cons_zero, List.set_cons_succ]
        refine wpTailZ_last rfl (fun K hK => ?_)
        go_wp2_with fail
        go_roundw
        case rel => exact ⟨k + 1, by go_num, by omega, by omega, HN9, HB9⟩
        case measure => simp [intOf]; omega
      · have i2 : ¬ (k : Int) < (n : Int) := by omega
        obtain rfl : k = n := by omega
        go_wp2_with fail
        go_ret
        exact ⟨_, rfl, HO.out, HB.out⟩
    · have i1 : ¬ (k : Int) < (l.length : Int) := by omega
      have hE : few400 l n = few400 l k := by
        unfold few400
        rw [List.take_of_length_le (by omega), List.take_of_length_le (by omega)]
      have HE := Lib.hid hE
      clear hE
      go_wp2_with fail
      go_ret
      rw [HE.out]
      exact ⟨_, rfl, HO.out, HB.out⟩
end Go.Proofs.YtjlehlkkgkplmabDoor
