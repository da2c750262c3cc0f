/-
  Walks: where lines begin, a line: by the reference of layer 2.
-/
import Derived.Test.YtflpihedhccdfaaGreatDoorProg
import Derived.Test.YtflpihedhccdfaaGreatDoorReg
import Derived.WalkKit
import Derived.WalkSpells
import Derived.WalkLawsBesides
import Derived.Lib.Hide
import Derived.Lib.MinMax
import Derived.Deep.QuietTactic
import Derived.BigQuiet
import Derived.OwnWalk
import Derived.Deep.AppendLies
import Derived.KernelRfl
import Derived.Laws.OwnMore
import Derived.Test.YtflpihedhccdfaaGreatDoorRxL
import Derived.Test.YtflpihedhccdfaaGreatDoorLxM5
import Derived.Test.YtflpihedhccdfaaGreatDoorBytes
set_option linter.unusedSimpArgs false
set_option linter.unusedVariables false
namespace Go.Proofs.YtflpihedhccdfaaGreatDoor
open Go.RowKit

theorem infoInt : (Tryz.prog.info? 3).map (fun i => (i.zero, i.size, i.bytes)) = some (some (.int .i64 0), 1, 8) := by kernel_rfl

/-- The slice value '.slice A n c' holds, in w, the numbers l. -/
def HoldsN (w : World) (A : Option Addr) (l : List Nat) : Prop :=
  ∀ (k : Nat) (x : Nat), l[k]? = some x → ∃ b off, A = some ⟨b, off, none⟩ ∧ w.cell? ⟨b, off + k, none⟩ = some (.int .i64 x)
theorem HoldsN.below {w w' : World} {A : Option Addr} {l : List Nat} (h : HoldsN w A l) (hb : Below w.heap.size w w') : HoldsN w' A l := fun k x hx => by
  obtain ⟨b, off, e, h1⟩ := h k x hx
  have hl : b < w.heap.size := cell_lt h1
  exact ⟨b, off, e, (hb.cell (p := ⟨b, _, none⟩) hl).trans h1⟩
def natCells (l : List Nat) : List Value := l.map fun (n : Nat) => Value.int .i64 (n : Int)
theorem natCells_length (l : List Nat) : (natCells l).length = l.length := by simp [natCells]
theorem natCells_snoc (l : List Nat) (x : Nat) : natCells (l ++ [x]) = natCells l ++ [.int .i64 (x : Int)] := by simp [natCells]
theorem holdsN_of_own {w : World} {base : Nat} {e : TypeId} {v : Value} {n : Nat} {l : List Nat} (h : w.ownsRow base e 1 v n (natCells l)) :
    ∃ A c, v = .slice A l.length c ∧ n = l.length ∧ HoldsN w A l ∧ l.length ≤ c := by
  have hn : n = l.length := by have h1 := h.1; rw [natCells_length] at h1; omega
  subst hn
  rcases h.2 with ⟨rfl, h0⟩ | ⟨g, cap, cur, rfl, _, _, hcap, _⟩
  · have : l = [] := List.eq_nil_of_length_eq_zero h0
    subst this
    exact ⟨none, 0, rfl, rfl, fun k x hx => by simp at hx, Nat.le_refl _⟩
  · refine ⟨some ⟨g, 0, none⟩, cap, rfl, rfl, fun k x hx => ?_, hcap⟩
    have hc := h.cells (g := g) rfl
    have h1 : (natCells l)[k]? = some (.int .i64 x) := by simp [natCells, hx]
    have c1 := hc _ _ h1
    have ea : ∀ j, (⟨g, 0, none⟩ : Addr).add j = ⟨g, 0 + j, none⟩ := fun j => by
      unfold Addr.add
      split
      · rename_i h; subst h; rfl
      · rfl
    rw [ea] at c1
    exact ⟨g, 0, rfl, c1⟩

def startsOf (s : ByteArray) : List Nat := stL 0 (linesL s.data.toList)
theorem starts_len (s : ByteArray) : (startsOf s).length = (piecesB s).length := by unfold startsOf piecesB; rw [stL_len, List.length_map]
theorem nls_step {s : ByteArray} {k : Nat} (h : k < s.size) : nls k (s.data.toList.drop k) = if s[k] = 10 then (k + 1) :: nls (k + 1) (s.data.toList.drop (k + 1)) else nls (k + 1) (s.data.toList.drop (k + 1)) := by
  have hl : k < s.data.toList.length := by rw [bytes_len]; exact h
  rw [List.drop_eq_getElem_cons hl]
  simp only [nls]
  rfl

set_option maxRecDepth 100000 in
set_option maxHeartbeats 2000000 in
theorem starts_any (s : ByteArray) (w : World) (hs : s.size ≤ 1000000) :
    Calls Tryz.prog 19 #[.string s] w fun e w' => ∃ A c, e = .returned (.slice A (piecesB s).length c) ∧ HoldsN w' A (startsOf s) ∧ (piecesB s).length ≤ c ∧ Below w.heap.size w w' := by
  obtain ⟨i0, hi0, hz0, hz1, hz2⟩ := info_parts infoInt
  have hstart : startsOf s = 0 :: nls 0 s.data.toList := starts_is _
  have Hst := Lib.hid hstart
  clear hstart
  go_enter Tryz.func19, Tryz.ntmps19
  go_wp2
  go_loopw [3, 4] (fun v i wr => ∃ (k : Nat) (done : List Nat), k ≤ s.size ∧ i = .int .i64 k ∧ done.length ≤ k + 1 ∧ Hid (done ++ nls k (s.data.toList.drop k) = startsOf s) ∧ wr.ownsRow w.heap.size 3 1 v done.length (natCells done) ∧ Below w.heap.size w wr)
    (fun _ i _ => s.size - (intOf i).toNat)
  case atStart =>
    exact ⟨0, [0], by omega, rfl, by simp, Lib.hid (by rw [Hst.out]; rfl), World.ownsRow_lit w #[.int .i64 0] 1 (Nat.le_refl _) (by decide) rfl, (Below.refl _ _).alloc (Nat.le_refl _) _⟩
  case round =>
    obtain ⟨k, done, hk, rfl, hd, Hd, hown, hb⟩ := hrel
    by_cases hlt : k < s.size
    · have hstep := nls_step hlt
      have hsz := hb.size
      have geo := ownBlock_ge hown
      by_cases hc : s[k] = 10
      · have hq : ((s[k].toNat : Int) == 10) = true := by rw [hc]; rfl
        rw [if_pos hc] at hstep
        have Hs := Lib.hid hstep
        clear hstep hc
        go_wp2_with (at_builtin; go_must (refine wpList_append_own _ rfl _ _ 43 rfl w.heap.size 3 i0 _ 1 8 Tryz.underlying43 hi0 hz0 hz1 hz2 rfl (by decide) u3 done.length (natCells done) rfl (hown.alloc _) ⟨wr.heap.size, 0, none⟩ 1 1 [.int .i64 ((k : Int) + 1)] rfl rfl (cell_one_new _ _ _) (by simp [Value.oneCell']) (by unfold maxLen; omega) (by omega) (by simp; omega) ?_); go_must (intro v1 w3 hown3 hg3 _); go_must (obtain ⟨A9, c9, rfl⟩ := owns_slice hown3))
        go_roundw
        case rel =>
          refine ⟨k + 1, done ++ [k + 1], by omega, by go_num, by simp; omega, Lib.hid ?_, ?_, (hb.alloc hsz _).grown hg3 (by simp; omega) geo⟩
          · rw [← Hd.out, Hs.out]; simp
          · rw [natCells_snoc]
            have e : (done ++ [k + 1]).length = done.length + 1 := by simp
            rw [e]
            exact hown3
        case measure => simp [intOf]; omega
      · have hq : ((s[k].toNat : Int) == 10) = false := by
          simp
          intro e
          exact hc (UInt8.toNat_inj.1 (by have : s[k].toNat = 10 := by omega
                                          rw [this]; rfl))
        rw [if_neg hc] at hstep
        have Hs := Lib.hid hstep
        clear hstep hc
        go_wp2
        go_roundw
        case rel => exact ⟨k + 1, done, by omega, by go_num, by omega, Lib.hid (by rw [← Hd.out, Hs.out]), hown, hb⟩
        case measure => simp [intOf]; omega
    · obtain rfl : k = s.size := by omega
      have hdone : done = startsOf s := by
        rw [← Hd.out, List.drop_of_length_le (by rw [bytes_len]; exact Nat.le_refl _)]
        simp [nls]
      have HD := Lib.hid hdone
      clear hdone
      go_wp2
      go_ret
      obtain ⟨B, d, rfl, _, hH, hcap⟩ := holdsN_of_own hown
      rw [HD.out] at hH hcap
      rw [starts_len] at hcap
      exact ⟨B, d, by rw [HD.out, starts_len]; rfl, hH, hcap, hb⟩

theorem pieces_small {s : ByteArray} (hs : s.size ≤ 1000000) : (piecesB s).length ≤ 1000001 := by
  have h1 := pieces_len s
  have h2 := Lib.countB_le nlB (by decide) s.size s (Nat.le_refl _)
  omega

/-- Where the piece lies. -/
theorem piece_lies {s p : ByteArray} {n : Nat} (h : (piecesB s)[n]? = some p) : ∃ st, (startsOf s)[n]? = some st ∧ p = s.extract st (st + p.size) ∧ st + p.size ≤ s.size ∧
    (n + 1 < (piecesB s).length → (startsOf s)[n + 1]? = some (st + p.size + 1)) ∧ (n + 1 = (piecesB s).length → st + p.size = s.size) := by
  have hl : (piecesB s).length = (linesL s.data.toList).length := by unfold piecesB; rw [List.length_map]
  have hq : (linesL s.data.toList)[n]? = some p.data.toList := by
    unfold piecesB at h
    rw [List.getElem?_map] at h
    obtain ⟨q, h1, h2⟩ := Option.map_eq_some_iff.1 h
    rw [h1, ← h2]
    rfl
  obtain ⟨st, h1, h2, h3, h4, h5⟩ := piece_at (linesL s.data.toList) 0 n _ hq
  rw [join_lines] at h2 h3 h5
  rw [bytes_len] at h2 h3 h4 h5
  rw [bytes_len] at h3 h5
  refine ⟨st, by unfold startsOf; rw [h1]; congr 1; omega, bytes_eq ?_, h3, fun hn => ?_, fun hn => h5 (by omega)⟩
  · rw [bytes_ext]
    conv => lhs; rw [← h2]
    congr 1
    omega
  · unfold startsOf
    rw [h4 (by omega)]
    congr 1
    omega

set_option maxRecDepth 100000 in
set_option maxHeartbeats 2000000 in
theorem line_any (s p : ByteArray) (n : Nat) (w : World) (hs : s.size ≤ 1000000) (hp : (piecesB s)[n]? = some p) :
    Calls Tryz.prog 21 #[.string s, .int .i64 n] w fun e w' => e = .returned (.tuple #[.string p, .int .i64 0]) ∧ Below w.heap.size w w' := by
  obtain ⟨st, h1, h2, h3, h4, h5⟩ := piece_lies hp
  have hl : n < (piecesB s).length := (List.getElem?_eq_some_iff.1 hp).1
  have hsm := pieces_small hs
  have H := starts_any s w hs
  obtain ⟨z, hz⟩ : ∃ z, st + p.size = z := ⟨_, rfl⟩
  rw [hz] at h2 h3 h4 h5
  have Hp : Hid (p = s.extract st z) := Lib.hid h2
  have hsz : st ≤ z := by omega
  clear hz
  generalize (piecesB s).length = N at *
  clear hp h2
  go_enter Tryz.func21, Tryz.ntmps21
  go_wp2_with fail
  refine H.mono ?_
  rintro e w1 ⟨A, c, rfl, hH, hc, hb⟩
  clear H
  obtain ⟨b, off, rfl, c1⟩ := hH n st h1
  have hN : (n : Int) < (N : Int) := by omega
  by_cases hn : n + 1 < N
  · obtain ⟨b', off', e, c2⟩ := hH (n + 1) _ (h4 hn)
    cases e
    have hn2 : (n : Int) + 1 < (N : Int) := by omega
    have e1 : (((z + 1 : Nat) : Int) - 1) = (z : Int) := by omega
    have q1 : (st : Int) ≤ (z : Int) := by omega
    have q2 : (z : Int) ≤ (s.size : Int) := by omega
    have Hz := Lib.hid hH
    clear h4 h5 h1 hH
    go_wp2_with fail
    go_ret2
    exact ⟨by rw [Hp.out]; rfl, hb⟩
  · have hd : decide ((n : Int) + 1 < (N : Int)) = false := by simp; omega
    have hd2 : decide (n + 1 < N) = false := by simp; omega
    have hz : z = s.size := h5 (by omega)
    subst hz
    have q1 : (st : Int) ≤ (s.size : Int) := by omega
    clear h4 h5 h1 hH
    go_wp2_with fail
    go_ret2
    exact ⟨by rw [Hp.out]; rfl, hb⟩
end Go.Proofs.YtflpihedhccdfaaGreatDoor
