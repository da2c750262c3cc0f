/-
  The map of the functions of two.
-/
import Derived.Test.YtkghmcfbhojbaaaDoorProg
import Derived.Test.YtkghmcfbhojbaaaDoorReg
import Derived.WalkKit
import Derived.WalkSpells
import Derived.WalkLawsBesides
import Derived.Lib.Hide
import Derived.Lib.MinMax
import Derived.Deep.QuietTactic
import Derived.BigQuiet
import Derived.OwnWalk
import Derived.Deep.AppendLies
import Derived.KernelRfl
import Derived.Test.YtkghmcfbhojbaaaDoorNumB
import Derived.Test.YtkghmcfbhojbaaaDoorNumF
import Derived.Test.YtkghmcfbhojbaaaDoorNumG
import Derived.Test.YtkghmcfbhojbaaaDoorMap
set_option linter.unusedSimpArgs false
set_option linter.unusedVariables false
namespace Go.Proofs.YtkghmcfbhojbaaaDoor
open Go.RowKit

def gAdd : ByteArray := ⟨#[43]⟩
def gTake : ByteArray := ⟨#[45]⟩
def gTimes : ByteArray := ⟨#[195, 151]⟩
def gDiv : ByteArray := ⟨#[195, 183]⟩
def gRes : ByteArray := ⟨#[124]⟩
def gHi : ByteArray := ⟨#[226, 140, 136]⟩
def gLo : ByteArray := ⟨#[226, 140, 138]⟩

/-- The glyphs of the two loops. -/
def cmps : List ByteArray := [gEq, gNe, gLt, gGt, gLe, gGe]
def logics : List ByteArray := [gAnd, gOr]

/-- What is held where functions of one glyph each have been put, the newest first. -/
def putsOf (f : FuncId) : List (ByteArray × Addr) → (ByteArray → Option Value) → ByteArray → Option Value
  | [], look, x => look x
  | (g, p) :: l, look, x => if x = g then some (.func (.func f) #[] #[.pointer (some p)]) else putsOf f l look x

/-- The glyph's cell of each lies in w, in no map. -/
def CellsOf (w : World) (b : Nat) (l : List (ByteArray × Addr)) : Prop := ∀ x ∈ l, w.cell? x.2 = some (.string x.1) ∧ x.2.block ≠ b

/-- The seven that stand in the text. -/
def look7 (x : ByteArray) : Option Value :=
  if x = gLo then some (.func (.func 37) #[] #[]) else if x = gHi then some (.func (.func 36) #[] #[]) else
  if x = gRes then some (.func (.func 35) #[] #[]) else if x = gDiv then some (.func (.func 34) #[] #[]) else
  if x = gTimes then some (.func (.func 33) #[] #[]) else if x = gTake then some (.func (.func 32) #[] #[]) else
  if x = gAdd then some (.func (.func 31) #[] #[]) else none

set_option maxRecDepth 100000 in
set_option maxHeartbeats 4000000 in
theorem dyads_any (w : World) :
    Calls Tryd.prog 20 #[] w fun r w' => r = .returned (.map (some w.heap.size)) ∧ ∃ L M, L.map Prod.fst = cmps.reverse ∧ M.map Prod.fst = logics.reverse ∧
      MapIs w' Tryd.prog 9 w.heap.size 15 (putsOf 40 M (putsOf 38 L look7)) ∧ CellsOf w' w.heap.size L ∧ CellsOf w' w.heap.size M ∧ Below w.heap.size w w' := by
  have hmm := @run_makeMap Tryd.prog
  have hk := Tryd.underlying9
  have ht := Tryd.underlying35
  obtain ⟨w1, r1, m1, g1⟩ := (MapIs.made w Tryd.prog 9).put hk ht (by unfold maxLen; omega) gAdd (by decide) (.func (.func 31) #[] #[])
  obtain ⟨w2, r2, m2, g2⟩ := m1.put hk ht (by unfold maxLen; omega) gTake (by decide) (.func (.func 32) #[] #[])
  obtain ⟨w3, r3, m3, g3⟩ := m2.put hk ht (by unfold maxLen; omega) gTimes (by decide) (.func (.func 33) #[] #[])
  obtain ⟨w4, r4, m4, g4⟩ := m3.put hk ht (by unfold maxLen; omega) gDiv (by decide) (.func (.func 34) #[] #[])
  obtain ⟨w5, r5, m5, g5⟩ := m4.put hk ht (by unfold maxLen; omega) gRes (by decide) (.func (.func 35) #[] #[])
  obtain ⟨w6, r6, m6, g6⟩ := m5.put hk ht (by unfold maxLen; omega) gHi (by decide) (.func (.func 36) #[] #[])
  obtain ⟨w7, r7, m7, g7⟩ := m6.put hk ht (by unfold maxLen; omega) gLo (by decide) (.func (.func 37) #[] #[])
  unfold gAdd at r1
  unfold gTake at r2
  unfold gTimes at r3
  unfold gDiv at r4
  unfold gRes at r5
  unfold gHi at r6
  unfold gLo at r7
  go_enter Tryd.func20, Tryd.ntmps20
  go_wp2_with fail
  have hb7 : Below w.heap.size w w7 := by
    have h0 : Below w.heap.size w (w.alloc (.map #[] 0)) := (Below.refl _ _).alloc (Nat.le_refl _) _
    have st : ∀ {u v : World}, Below w.heap.size w u → u.grownBy v (some w.heap.size) → Below w.heap.size w v := fun hu hg => hu.grown hg hu.size (fun k hk => by cases hk; exact Nat.le_refl _)
    exact st (st (st (st (st (st (st h0 g1) g2) g3) g4) g5) g6) g7
  have hne : w7.heap.size ≠ w.heap.size := by
    have h1 := g1.size
    have h2 := g2.size
    have h3 := g3.size
    have h4 := g4.size
    have h5 := g5.size
    have h6 := g6.size
    have h7 := g7.size
    simp at h1
    omega
  go_loopw [10] (fun i wr => ∃ (n : Nat) (L : List (ByteArray × Addr)), n ≤ 6 ∧ i = .int .i64 n ∧ L.map Prod.fst = (cmps.take n).reverse ∧ MapIs wr Tryd.prog 9 w.heap.size (7 + n) (putsOf 38 L look7) ∧ CellsOf wr w.heap.size L ∧
    (∀ (k : Nat) (g : ByteArray), cmps[k]? = some g → wr.cell? ⟨w7.heap.size, k, none⟩ = some (.string g)) ∧ w7.heap.size ≠ w.heap.size ∧ Below w.heap.size w wr) (fun i _ => 6 - (intOf i).toNat)
  case atStart =>
    refine ⟨0, [], by omega, rfl, rfl, MapIs.kept (look := look7) m7 (World.grownBy_alloc w7 _ none) (by simp), fun x hx => (by cases hx), ?_, hne, hb7.alloc hb7.size _⟩
    intro k g hg
    match k, hg with
    | 0, hg => simp [cmps] at hg; subst hg; simp [gEq]
    | 1, hg => simp [cmps] at hg; subst hg; simp [gNe]
    | 2, hg => simp [cmps] at hg; subst hg; simp [gLt]
    | 3, hg => simp [cmps] at hg; subst hg; simp [gGt]
    | 4, hg => simp [cmps] at hg; subst hg; simp [gLe]
    | 5, hg => simp [cmps] at hg; subst hg; simp [gGe]
    | k + 6, hg => simp [cmps] at hg
  case round =>
    obtain ⟨n, L, hn, rfl, hL, hm, hc, hs, hne', hb⟩ := hrel
    by_cases hlt : n < 6
    · have hcn : ∃ g, cmps[n]? = some g := ⟨cmps[n]'(by simpa [cmps] using hlt), List.getElem?_eq_getElem _⟩
      obtain ⟨g, hg⟩ := hcn
      have hcell := hs n g hg
      have hbz := hb.size
      have hgs : g.size ≤ maxLen := by
        have h1 : ∀ x ∈ cmps, x.size ≤ 3 := by decide
        have h2 := h1 g (List.mem_of_getElem? hg)
        unfold maxLen
        omega
      have hwm : wr.heap.size ≠ w.heap.size := by
        obtain ⟨_, ⟨es, c, h1, _⟩, _⟩ := hm
        have : w.heap.size < wr.heap.size := by
          rcases Nat.lt_or_ge w.heap.size wr.heap.size with h | h
          · exact h
          · simp [Array.getElem?_eq_none h] at h1
        omega
      obtain ⟨w8, r8, m8, g8⟩ := (MapIs.kept hm (World.grownBy_alloc wr (.cells #[.string g] 9) none) (by simp)).put hk ht (by unfold maxLen; omega) g hgs (.func (.func 38) #[] #[.pointer (some ⟨wr.heap.size, 0, none⟩)])
      go_wp2_with fail
      go_roundw
      case rel =>
        refine ⟨n + 1, (g, ⟨wr.heap.size, 0, none⟩) :: L, by omega, by go_num, ?_, m8, ?_, ?_, hne', ?_⟩
        · simp [hL, List.take_add_one, hg]
        · intro x hx
          rcases List.mem_cons.1 hx with rfl | hx
          · exact ⟨(g8.cell_far ⟨wr.heap.size, 0, none⟩ (by simp) (by simpa using hwm)).trans (by simp), by simpa using hwm⟩
          · obtain ⟨c1, c2⟩ := hc x hx
            have l1 := cell_lt c1
            exact ⟨(g8.cell_far x.2 (by simp; omega) (by simpa using c2)).trans ((World.cell?_alloc_lt _ _ _ l1).trans c1), c2⟩
        · intro k x hk'
          have c1 := hs k x hk'
          have l1 := cell_lt c1
          exact (g8.cell_far ⟨w7.heap.size, k, none⟩ (by simp; exact Nat.lt_succ_of_lt l1) (by simpa using hne')).trans ((World.cell?_alloc_lt _ _ _ l1).trans c1)
        · exact (hb.alloc hbz _).grown g8 (by simp; omega) (fun k hk => by cases hk; exact Nat.le_refl _)
      case measure => simp [intOf]; omega
    · obtain rfl : n = 6 := by omega
      clear r1 r2 r3 r4 r5 r6 r7 m1 m2 m3 m4 m5 m6 m7 g1 g2 g3 g4 g5 g6 g7 hs
      have hbz := hb.size
      have hwm : wr.heap.size ≠ w.heap.size := by
        obtain ⟨_, ⟨es, c, h1, _⟩, _⟩ := hm
        have : w.heap.size < wr.heap.size := by
          rcases Nat.lt_or_ge w.heap.size wr.heap.size with h | h
          · exact h
          · simp [Array.getElem?_eq_none h] at h1
        omega
      obtain ⟨wu, hwu⟩ : ∃ u : World, u = wr := ⟨wr, rfl⟩
      subst hwu
      go_wp2_with fail
      go_loopw [20] (fun i wr => ∃ (n : Nat) (M : List (ByteArray × Addr)), n ≤ 2 ∧ i = .int .i64 n ∧ M.map Prod.fst = (logics.take n).reverse ∧ MapIs wr Tryd.prog 9 w.heap.size (13 + n) (putsOf 40 M (putsOf 38 L look7)) ∧ CellsOf wr w.heap.size L ∧ CellsOf wr w.heap.size M ∧
        (∀ (k : Nat) (g : ByteArray), logics[k]? = some g → wr.cell? ⟨wu.heap.size, k, none⟩ = some (.string g)) ∧ Below w.heap.size w wr) (fun i _ => 2 - (intOf i).toNat)
      case atStart =>
        refine ⟨0, [], by omega, rfl, rfl, MapIs.kept hm (World.grownBy_alloc wu _ none) (by simp), fun x hx => ?_, fun x hx => (by cases hx), ?_, hb.alloc hb.size _⟩
        · obtain ⟨c1, c2⟩ := hc x hx
          exact ⟨(World.cell?_alloc_lt _ _ _ (cell_lt c1)).trans c1, c2⟩
        · intro k g hg
          match k, hg with
          | 0, hg => simp [logics] at hg; subst hg; simp [gAnd]
          | 1, hg => simp [logics] at hg; subst hg; simp [gOr]
          | k + 2, hg => simp [logics] at hg
      case round =>
        obtain ⟨n, M, hn2, rfl, hM, hm2, hcL, hcM, hs2, hb2⟩ := hrel
        have hbz2 := hb2.size
        by_cases hlt2 : n < 2
        · have hcn : ∃ g, logics[n]? = some g := ⟨logics[n]'(by simpa [logics] using hlt2), List.getElem?_eq_getElem _⟩
          obtain ⟨g, hg⟩ := hcn
          have hcell := hs2 n g hg
          have hgs : g.size ≤ maxLen := by
            have h1 : ∀ x ∈ logics, x.size ≤ 3 := by decide
            have h2 := h1 g (List.mem_of_getElem? hg)
            unfold maxLen
            omega
          have hvm : wr.heap.size ≠ w.heap.size := by
            obtain ⟨_, ⟨es, c, h1, _⟩, _⟩ := hm2
            have : w.heap.size < wr.heap.size := by
              rcases Nat.lt_or_ge w.heap.size wr.heap.size with h | h
              · exact h
              · simp [Array.getElem?_eq_none h] at h1
            omega
          obtain ⟨w8, r8, m8, g8⟩ := (MapIs.kept hm2 (World.grownBy_alloc wr (.cells #[.string g] 9) none) (by simp)).put hk ht (by unfold maxLen; omega) g hgs (.func (.func 40) #[] #[.pointer (some ⟨wr.heap.size, 0, none⟩)])
          have far : ∀ (p : Addr) (v : Value), wr.cell? p = some v → p.block ≠ w.heap.size → w8.cell? p = some v := fun p v c1 c2 =>
            (g8.cell_far p (by simp; exact Nat.lt_succ_of_lt (cell_lt c1)) (by simpa using c2)).trans ((World.cell?_alloc_lt _ _ _ (cell_lt c1)).trans c1)
          go_wp2_with fail
          go_roundw
          case rel =>
            refine ⟨n + 1, (g, ⟨wr.heap.size, 0, none⟩) :: M, by omega, by go_num, ?_, m8, fun x hx => ⟨far _ _ (hcL x hx).1 (hcL x hx).2, (hcL x hx).2⟩, ?_, fun k x hk' => far _ _ (hs2 k x hk') hwm, ?_⟩
            · simp [hM, List.take_add_one, hg]
            · intro x hx
              rcases List.mem_cons.1 hx with rfl | hx
              · exact ⟨(g8.cell_far ⟨wr.heap.size, 0, none⟩ (by simp) (by simpa using hvm)).trans (by simp), by simpa using hvm⟩
              · exact ⟨far _ _ (hcM x hx).1 (hcM x hx).2, (hcM x hx).2⟩
            · exact (hb2.alloc hbz2 _).grown g8 (by simp; omega) (fun k hk => by cases hk; exact Nat.le_refl _)
          case measure => simp [intOf]; omega
        · obtain rfl : n = 2 := by omega
          go_wp2_with fail
          go_ret
          exact ⟨rfl, L, M, hL, hM, hm2, hcL, hcM, hb2⟩
end Go.Proofs.YtkghmcfbhojbaaaDoor
