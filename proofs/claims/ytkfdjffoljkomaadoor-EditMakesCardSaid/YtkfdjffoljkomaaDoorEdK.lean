/-
  Walks: what edits leave of a text, piece by piece: the iterator.
-/
import Derived.Test.YtkfdjffoljkomaaDoorProg
import Derived.Test.YtkfdjffoljkomaaDoorReg
import Derived.WalkKit
import Derived.WalkSpells
import Derived.WalkLawsBesides
import Derived.Lib.Hide
import Derived.Lib.MinMax
import Derived.Deep.QuietTactic
import Derived.BigQuiet
import Derived.OwnWalk
import Derived.Deep.AppendLies
import Derived.KernelRfl
import Derived.Test.YtkfdjffoljkomaaDoorRegIn
import Derived.Test.YtkfdjffoljkomaaDoorKeep
import Derived.Test.YtkfdjffoljkomaaDoorEdQ
import Derived.Test.YtkfdjffoljkomaaDoorEdE
import Derived.OwnWalkIn
import Derived.TacticsInMore
import Derived.LoopNIn
import Derived.LoopIn
set_option linter.unusedSimpArgs false
set_option linter.unusedVariables false
namespace Go.Proofs.YtkfdjffoljkomaaDoor
open Go.RowKit Go.Shelf

/-- The pieces: what is left ahead of each edit, with it; the rest, with none. -/
def keeps (s : ByteArray) : Nat → List Ed → List (ByteArray × Ed)
  | e, [] => [(s.extract e s.size, ⟨s.size, 0, ByteArray.empty⟩)]
  | e, x :: l => (s.extract e x.pos.toNat, x) :: keeps s (x.pos + x.n).toNat l

/-- The pieces with the edits' texts, one behind the other. -/
def joined (pre : List (ByteArray × Ed)) : List UInt8 := pre.flatMap fun x => x.1.data.toList ++ x.2.s.data.toList
theorem joined_snoc (pre : List (ByteArray × Ed)) (x : ByteArray × Ed) : joined (pre ++ [x]) = joined pre ++ (x.1.data.toList ++ x.2.s.data.toList) := by simp [joined]
theorem joined_keeps (s : ByteArray) (l : List Ed) : ∀ v : Nat, joined (keeps s v l) = applyL s.data.toList v l := by
  induction l with
  | nil =>
    intro v
    simp only [keeps, joined, List.flatMap_cons, List.flatMap_nil, applyL, bytes_ext]
    rw [List.take_of_length_le (by rw [List.length_drop, bytes_len]; exact Nat.le_refl _)]
    simp
  | cons x l ih =>
    intro v
    have e : keeps s v (x :: l) = (s.extract v x.pos.toNat, x) :: keeps s (x.pos + x.n).toNat l := rfl
    have e2 : joined ((s.extract v x.pos.toNat, x) :: keeps s (x.pos + x.n).toNat l) = (s.extract v x.pos.toNat).data.toList ++ x.s.data.toList ++ joined (keeps s (x.pos + x.n).toNat l) := by simp [joined]
    rw [e, e2, ih, applyL, bytes_ext, List.append_assoc]

/-- A piece whose texts are not too long. -/
def Piece : Type := { x : ByteArray × Ed // x.1.size ≤ 1000000 ∧ x.2.s.size ≤ 1000000 }

theorem keeps_step {s : ByteArray} {v : Nat} {x : Ed} {l : List Ed} {done g : List (ByteArray × Ed)} (h : done ++ keeps s v (x :: l) = g) :
    (done ++ [(s.extract v x.pos.toNat, x)]) ++ keeps s (x.pos + x.n).toNat l = g := by
  rw [← h]; simp [keeps]

def encPiece (x : Piece) : Array Value := #[.string x.1.1, .agg #[.int .i64 x.1.2.pos, .int .i64 x.1.2.n, .string x.1.2.s]]

attribute [local go_sem] Oper.semAt_some

set_option maxRecDepth 100000 in
set_option maxHeartbeats 4000000 in
theorem kept_any (a : Addr) (A : Option Addr) (n c : Nat) (w : World) :
    Calls Tryd.prog 27 #[.pointer (some a), .slice A n c] w fun e w' => e = .returned (.func (.func 35) #[] #[.pointer (some ⟨w.heap.size + 1, 0, none⟩), .pointer (some ⟨w.heap.size, 0, none⟩)]) ∧
      w' = (w.alloc (.cells #[.pointer (some a)] 60)).alloc (.cells #[.slice A n c] 22) := by
  go_enter Tryd.func27, Tryd.ntmps27
  go_wp2
  go_ret
  exact ⟨rfl, rfl⟩

/-- What holds at the head of the iterator's round k. -/
structure KeptAt (s : ByteArray) (A : Option Addr) (c : Nat) (l : List Ed) (a Bl Bt : Nat) (T : TypeId) (y : Value) (w0 : World) (J : List Piece → World → Prop) (k : Nat) (z : Int) (pre : List Piece) (wr : World) : Prop where
  low : Below w0.heap.size w0 wr
  bl : Boxed wr Bl 22 (.slice A l.length c)
  bt : Boxed wr Bt 60 (.pointer (some ⟨a, 0, none⟩))
  ba : wr.heap[a]? = some (.cells #[.string s, y] T (0, 0))
  len : pre.length = k
  inv : J pre wr
  at_ : k ≤ l.length → ∃ v : Nat, z = v ∧ v ≤ s.size ∧ right s.size v (l.drop k) = true ∧ pre.map (·.1) ++ keeps s v (l.drop k) = keeps s 0 l
  end_ : l.length < k → pre.map (·.1) = keeps s 0 l

set_option maxRecDepth 100000 in
set_option maxHeartbeats 4000000 in
theorem kept1_stops (X : Nat → TypeId → Prop) (n : Nat) (hn : 1 ≤ n) (w0 w : World) (s : ByteArray) (A : Option Addr) (c : Nat) (l : List Ed) (a Bl Bt : Nat) (T : TypeId) (y : Value)
    (hs : s.size ≤ 1000000) (hl : mild l) (hr : right s.size 0 l = true) (hh : Holds w0 A l) (hb0 : Below w0.heap.size w0 w)
    (bl : Boxed w Bl 22 (.slice A l.length c)) (bt : Boxed w Bt 60 (.pointer (some ⟨a, 0, none⟩))) (ba : w.heap[a]? = some (.cells #[.string s, y] T (0, 0)))
    (xl : ¬ X Bl 22) (xt : ¬ X Bt 60) (xa : ¬ X a T) (xe : ∀ b, ¬ X b 35) :
    SeqStopsK Fence.wide n Tryd.prog 35 #[.pointer (some ⟨Bl, 0, none⟩), .pointer (some ⟨Bt, 0, none⟩)] encPiece (KeepsTwo w0.heap.size X) (fun xs => xs.map (·.1) = keeps s 0 l) (fun _ => True) (l.length + 1) w := by
  intro L J Jx W hW hJ hJx hY h0
  obtain ⟨hl1, hl2⟩ := hl
  have start : KeptAt s A c l a Bl Bt T y w0 J 0 0 [] W :=
    ⟨hb0.trans (hW.mono hb0.size), (hW.block _ bl.lt).trans bl, (hW.block _ bt.lt).trans bt, (hW.block _ (Array.getElem?_eq_some_iff.1 ba).1).trans ba, rfl, h0, fun _ => ⟨0, rfl, by omega, hr, rfl⟩, fun h => absurd h (by omega)⟩
  have HY := Lib.hid hY
  have HJ := Lib.hid hJ
  clear hY hr bl bt ba hJx hJ
  refine callsIn_wide.2 ?_
  go_enter Tryd.func35, Tryd.ntmps35
  go_wp2
  go_step3
  go_wp2
  go_step3
  go_wp2
  go_loopw [4, 5] (fun e i wr => ∃ (k : Nat) (z : Int) (pre : List Piece), i = .int .i64 k ∧ e = .int .i64 z ∧ k ≤ l.length + 1 ∧ KeptAt s A c l a Bl Bt T y w0 J k z pre wr)
    (fun _ i _ => l.length + 1 - (intOf i).toNat)
  case atStart => exact ⟨0, 0, [], rfl, rfl, by omega, start⟩
  case round =>
    obtain ⟨k, z, pre, rfl, rfl, hk, hK⟩ := hrel
    have cl := hK.bl.cell
    by_cases hle : k ≤ l.length
    · obtain ⟨v, rfl, hv, hri, hap⟩ := hK.at_ hle
      have ct := hK.bt.cell
      have ca : wr.cell? ⟨a, 0, none⟩ = some (.string s) := by simp [World.cell?, hK.ba]
      have la := (Array.getElem?_eq_some_iff.1 hK.ba).1
      have ll := hK.bl.lt
      have lt := hK.bt.lt
      by_cases hlt : k < l.length
      · obtain ⟨b, off, rfl, c1, c2, c3⟩ := (hh.below hK.low) k l[k] (List.getElem?_eq_getElem hlt)
        obtain ⟨m1, m2, m3, m4, m5⟩ := hl2 k l[k] (List.getElem?_eq_getElem hlt)
        have hd : l.drop k = l[k] :: l.drop (k + 1) := List.drop_eq_getElem_cons hlt
        generalize l[k] = x at *
        rw [hd, right_cons] at hri
        rw [hd] at hap
        obtain ⟨r1, r2, r3, r4, r5⟩ := hri
        have Hr := Lib.hid r5
        have Hap := Lib.hid hap
        have HK := Lib.hid hK
        clear hd hl2 r5 hap hK
        have q0 : (0 : Int) ≤ (v : Int) := by omega
        have lb : b < wr.heap.size := cell_lt c1
        go_wp2
        have hpm : (s.extract v x.pos.toNat).size ≤ 1000000 := by rw [ByteArray.size_extract]; omega
        have hg : wr.grownBy (wr.alloc (.cells #[.int .i64 x.pos, .int .i64 x.n, .string x.s] 35)).drew none := grown_drew (World.grownBy_alloc wr _ none)
        have nx : ((wr.alloc (.cells #[.int .i64 x.pos, .int .i64 x.n, .string x.s] 35)).drew).heap[wr.heap.size]? = some (.cells #[.int .i64 x.pos, .int .i64 x.n, .string x.s] 35 (0, 0)) := World.alloc_heap_new wr _
        have hJ1 := HJ.out pre wr _ none HK.out.inv hg (fun r e => by cases e)
        obtain ⟨fn, tmps, assign, body, hy, hR⟩ := HY.out pre ⟨(s.extract v x.pos.toNat, x), hpm, m5⟩ _ hJ1 (by rw [HK.out.len]; omega)
        have hy' : (Instr.yield L #[.string (s.extract v x.pos.toNat), .agg #[.int .i64 x.pos, .int .i64 x.n, .string x.s]]).run Tryd.prog (wr.alloc (.cells #[.int .i64 x.pos, .int .i64 x.n, .string x.s] 35)).drew = .ok (.round L fn tmps assign body) (wr.alloc (.cells #[.int .i64 x.pos, .int .i64 x.n, .string x.s] 35)).drew := hy
        have HR := Lib.hid hR
        clear hy hR hJ1 hg
        refine wpIn_wide.1 (wpInF_region_tail (n := n) 10 (fun _ => trivial) (by kernel_rfl) (by kernel_rfl) (by kernel_rfl) (by kernel_rfl) (fun _ _ _ _ _ h => h) ?_)
        simp only [List.take_succ_cons, List.take_zero, List.drop_succ_cons, List.drop_zero]
        repeat (refine wpHead_step (v := ?_) rfl ?_ ?_; rotate_left; (focus (rintro w1 rfl; go_simp; try with_reducible rfl)); simp only [Act.put, List.setIfInBounds_toArray, List.set_cons_zero, List.set_cons_succ])
        refine wpHead_nil ?_
        refine wpTailIn_step rfl (fun K hK => ?_)
        gi_wp2_with fail
        refine HR.out.mono ?_
        rintro e W3 (⟨rfl, hJ3, hk3⟩ | ⟨rfl, hJx3⟩)
        · have n3 := hk3.2.same _ _ _ _ nx (xe _)
          have d1 : W3.cell? ⟨wr.heap.size, 0, none⟩ = some (.int .i64 x.pos) := by simp [World.cell?, n3]
          have d2 : W3.cell? ⟨wr.heap.size, 1, none⟩ = some (.int .i64 x.n) := by simp [World.cell?, n3]
          have hlow : Below w0.heap.size w0 W3 := ((HK.out.low.alloc HK.out.low.size _).drew).trans hk3.1
          have hkk : KeepsBut X wr W3 := ((KeepsBut.refl X wr).alloc _).drew.trans hk3.2
          clear nx n3 hy' hk3 ct ca cl c1 c2 c3
          refine hK _ _ trivial ?_
          clear hK K
          refine wpTailIn_step rfl (fun K hK => ?_)
          gi_wp2_with fail
          refine hK _ _ trivial ?_
          clear hK K
          refine wpTailIn_nil ?_
          go_wp2
          go_roundw
          case rel =>
            refine ⟨k + 1, x.pos + x.n, pre ++ [⟨(s.extract v x.pos.toNat, x), hpm, m5⟩], by go_num, rfl, by omega, hlow, hkk.boxed HK.out.bl xl, hkk.boxed HK.out.bt xt, hkk.same _ _ _ _ HK.out.ba xa, by rw [List.length_append, HK.out.len]; rfl, hJ3, fun _ => ⟨(x.pos + x.n).toNat, by omega, by omega, ?_, ?_⟩, fun h => absurd h (by omega)⟩
            · have := Hr.out
              rwa [Int.toNat_of_nonneg (by omega)]
            · rw [List.map_append]
              exact keeps_step Hap.out
          case measure => simp [intOf]; omega
        · refine hK _ _ trivial ?_
          clear hK K
          refine wpTailIn_step rfl (fun K hK => ?_)
          gi_wp2_with fail
          refine hK _ _ trivial ?_
          clear hK K
          refine wpTailIn_nil ?_
          go_wp2
          try rw [Exit.noGoto_normal]
          go_end0
          exact ⟨⟨_, rfl⟩, .inr ⟨_, trivial, hJx3⟩⟩
      · obtain rfl : k = l.length := by omega
        rw [List.drop_of_length_le (Nat.le_refl _)] at hap
        have Hap := Lib.hid hap
        have HK := Lib.hid hK
        clear hap hK hri
        have q0 : (0 : Int) ≤ (v : Int) := by omega
        go_wp2
        have hpm : (s.extract v s.size).size ≤ 1000000 := by rw [ByteArray.size_extract]; omega
        have hg : wr.grownBy (wr.alloc (.cells #[.int .i64 s.size, .int .i64 0, .string ByteArray.empty] 35)).drew none := grown_drew (World.grownBy_alloc wr _ none)
        have nx : ((wr.alloc (.cells #[.int .i64 s.size, .int .i64 0, .string ByteArray.empty] 35)).drew).heap[wr.heap.size]? = some (.cells #[.int .i64 s.size, .int .i64 0, .string ByteArray.empty] 35 (0, 0)) := World.alloc_heap_new wr _
        have hJ1 := HJ.out pre wr _ none HK.out.inv hg (fun r e => by cases e)
        obtain ⟨fn, tmps, assign, body, hy, hR⟩ := HY.out pre ⟨(s.extract v s.size, ⟨s.size, 0, ByteArray.empty⟩), hpm, by simp⟩ _ hJ1 (by rw [HK.out.len]; omega)
        have hy' : (Instr.yield L #[.string (s.extract v s.size), .agg #[.int .i64 s.size, .int .i64 0, .string { data := #[] }]]).run Tryd.prog (wr.alloc (.cells #[.int .i64 s.size, .int .i64 0, .string { data := #[] }] 35)).drew = .ok (.round L fn tmps assign body) (wr.alloc (.cells #[.int .i64 s.size, .int .i64 0, .string { data := #[] }] 35)).drew := hy
        have HR := Lib.hid hR
        clear hy hR hJ1 hg
        refine wpIn_wide.1 (wpInF_region_tail (n := n) 10 (fun _ => trivial) (by kernel_rfl) (by kernel_rfl) (by kernel_rfl) (by kernel_rfl) (fun _ _ _ _ _ h => h) ?_)
        simp only [List.take_succ_cons, List.take_zero, List.drop_succ_cons, List.drop_zero]
        repeat (refine wpHead_step (v := ?_) rfl ?_ ?_; rotate_left; (focus (rintro w1 rfl; go_simp; try with_reducible rfl)); simp only [Act.put, List.setIfInBounds_toArray, List.set_cons_zero, List.set_cons_succ])
        refine wpHead_nil ?_
        refine wpTailIn_step rfl (fun K hK => ?_)
        gi_wp2_with fail
        refine HR.out.mono ?_
        rintro e W3 (⟨rfl, hJ3, hk3⟩ | ⟨rfl, hJx3⟩)
        · have n3 := hk3.2.same _ _ _ _ nx (xe _)
          have d1 : W3.cell? ⟨wr.heap.size, 0, none⟩ = some (.int .i64 s.size) := by simp [World.cell?, n3]
          have d2 : W3.cell? ⟨wr.heap.size, 1, none⟩ = some (.int .i64 0) := by simp [World.cell?, n3]
          have hlow : Below w0.heap.size w0 W3 := ((HK.out.low.alloc HK.out.low.size _).drew).trans hk3.1
          have hkk : KeepsBut X wr W3 := ((KeepsBut.refl X wr).alloc _).drew.trans hk3.2
          clear nx n3 hy' hk3 ct ca cl
          refine hK _ _ trivial ?_
          clear hK K
          refine wpTailIn_step rfl (fun K hK => ?_)
          gi_wp2_with fail
          refine hK _ _ trivial ?_
          clear hK K
          refine wpTailIn_nil ?_
          go_wp2
          go_roundw
          case rel =>
            refine ⟨l.length + 1, _, pre ++ [⟨(s.extract v s.size, ⟨s.size, 0, ByteArray.empty⟩), hpm, by simp⟩], by go_num, rfl, by omega, hlow, hkk.boxed HK.out.bl xl, hkk.boxed HK.out.bt xt, hkk.same _ _ _ _ HK.out.ba xa, by rw [List.length_append, HK.out.len]; rfl, hJ3, fun h => absurd h (by omega), fun _ => ?_⟩
            rw [List.map_append]
            exact Hap.out
          case measure => simp [intOf]
        · refine hK _ _ trivial ?_
          clear hK K
          refine wpTailIn_step rfl (fun K hK => ?_)
          gi_wp2_with fail
          refine hK _ _ trivial ?_
          clear hK K
          refine wpTailIn_nil ?_
          go_wp2
          try rw [Exit.noGoto_normal]
          go_end0
          exact ⟨⟨_, rfl⟩, .inr ⟨_, trivial, hJx3⟩⟩
    · have he := hK.end_ (by omega)
      have hi := hK.inv
      have He := Lib.hid he
      clear he hK
      go_wp2
      try rw [Exit.noGoto_normal]
      go_end0
      exact ⟨⟨_, rfl⟩, .inl ⟨pre, He.out, hi⟩⟩
end Go.Proofs.YtkfdjffoljkomaaDoor
