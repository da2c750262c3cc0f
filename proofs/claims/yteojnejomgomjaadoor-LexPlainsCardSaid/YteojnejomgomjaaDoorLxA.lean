/-
  The walks of the runes' tests, of how many bytes are so.
-/
import Derived.Test.YteojnejomgomjaaDoorProg
import Derived.Test.YteojnejomgomjaaDoorReg
import Derived.WalkKit
import Derived.WalkSpells
import Derived.WalkLawsBesides
import Derived.Lib.Hide
import Derived.Lib.MinMax
import Derived.Deep.QuietTactic
import Derived.BigQuiet
import Derived.OwnWalk
import Derived.Deep.AppendLies
import Derived.KernelRfl
import Derived.Laws.RangeAny
import Derived.Shelf.Abstract
import Derived.Test.YteojnejomgomjaaDoorLxT
set_option linter.unusedSimpArgs false
set_option linter.unusedVariables false
namespace Go.Proofs.YteojnejomgomjaaDoor
open Go.RowKit Go.Shelf

def rBlank (r : Nat) : Bool := r == 32 || r == 9
def rDig (r : Nat) : Bool := decide (48 ≤ r) && decide (r ≤ 57)
def rLet (r : Nat) : Bool := (decide (97 ≤ r) && decide (r ≤ 122)) || ((decide (65 ≤ r) && decide (r ≤ 90)) || r == 95)
def rPart (r : Nat) : Bool := rLet r || rDig r

theorem isBlank_any (r : Nat) (w : World) : Calls Tryd.prog 36 #[.int .i32 r] w fun e w' => e = .returned (.bool (rBlank r)) ∧ w' = w := by
  go_enter Tryd.func36, Tryd.ntmps36
  unfold rBlank
  by_cases h1 : r = 32
  · subst h1
    go_wp2
    go_ret
    exact ⟨rfl, rfl⟩
  · by_cases h2 : r = 9
    · subst h2
      go_wp2
      go_ret
      exact ⟨rfl, rfl⟩
    · have q1 : ((r : Int) == 32) = false := by simp; omega
      have q2 : ((r : Int) == 9) = false := by simp; omega
      have q3 : (r == 32 || r == 9) = false := by simp [h1, h2]
      rw [q3]
      go_wp2
      go_ret
      exact ⟨rfl, rfl⟩
theorem isDigit_any (r : Nat) (w : World) : Calls Tryd.prog 39 #[.int .i32 r] w fun e w' => e = .returned (.bool (rDig r)) ∧ w' = w := by
  go_enter Tryd.func39, Tryd.ntmps39
  unfold rDig
  by_cases h1 : 48 ≤ r
  · by_cases h2 : r ≤ 57
    · go_wp2
      go_ret
      refine ⟨?_, rfl⟩
      simp [h1, h2]
      omega
    · go_wp2
      go_ret
      refine ⟨?_, rfl⟩
      simp [h1, h2]
      omega
  · go_wp2
    go_ret
    refine ⟨?_, rfl⟩
    simp [h1]
theorem rLet_cases (r : Nat) : (rLet r = true ∧ decide ((97 : Int) ≤ (r : Int)) = true ∧ decide ((r : Int) ≤ 122) = true) ∨
    (rLet r = false ∧ decide ((97 : Int) ≤ (r : Int)) = true ∧ decide ((r : Int) ≤ 122) = false ∧ decide ((65 : Int) ≤ (r : Int)) = true ∧ decide ((r : Int) ≤ 90) = false ∧ ((r : Int) == 95) = false) ∨
    (rLet r = true ∧ decide ((97 : Int) ≤ (r : Int)) = false ∧ decide ((65 : Int) ≤ (r : Int)) = true ∧ decide ((r : Int) ≤ 90) = true) ∨
    (rLet r = true ∧ decide ((97 : Int) ≤ (r : Int)) = false ∧ decide ((65 : Int) ≤ (r : Int)) = true ∧ decide ((r : Int) ≤ 90) = false ∧ ((r : Int) == 95) = true) ∨
    (rLet r = false ∧ decide ((97 : Int) ≤ (r : Int)) = false ∧ decide ((65 : Int) ≤ (r : Int)) = true ∧ decide ((r : Int) ≤ 90) = false ∧ ((r : Int) == 95) = false) ∨
    (rLet r = false ∧ decide ((97 : Int) ≤ (r : Int)) = false ∧ decide ((65 : Int) ≤ (r : Int)) = false ∧ ((r : Int) == 95) = false) := by
  unfold rLet
  simp only [Bool.or_eq_true, Bool.and_eq_true, decide_eq_true_eq, beq_iff_eq, Bool.or_eq_false_iff, Bool.and_eq_false_iff, decide_eq_false_iff_not, beq_eq_false_iff_ne, ne_eq]
  omega
theorem isLetter_any (r : Nat) (w : World) : Calls Tryd.prog 42 #[.int .i32 r] w fun e w' => e = .returned (.bool (rLet r)) ∧ w' = w := by
  rcases rLet_cases r with ⟨e, h⟩ | ⟨e, h⟩ | ⟨e, h⟩ | ⟨e, h⟩ | ⟨e, h⟩ | ⟨e, h⟩
  all_goals
    rw [e]
    go_enter Tryd.func42, Tryd.ntmps42
    go_wp2
    go_ret
    exact ⟨rfl, rfl⟩
theorem isPart_any (r : Nat) (w : World) : Calls Tryd.prog 41 #[.int .i32 r] w fun e w' => e = .returned (.bool (rPart r)) ∧ w' = w := by
  have HL := Lib.hid (isLetter_any r)
  have HD := Lib.hid (isDigit_any r)
  unfold rPart
  generalize rLet r = a at *
  generalize rDig r = b at *
  go_enter Tryd.func41, Tryd.ntmps41
  cases a
  · go_wp2_with fail
    refine (HL.out _).mono ?_
    rintro e w1 ⟨rfl, rfl⟩
    go_wp2_with fail
    refine (HD.out _).mono ?_
    rintro e w1 ⟨rfl, rfl⟩
    go_wp2_with fail
    go_ret
    exact ⟨rfl, rfl⟩
  · go_wp2_with fail
    refine (HL.out _).mono ?_
    rintro e w1 ⟨rfl, rfl⟩
    go_wp2_with fail
    go_ret
    exact ⟨rfl, rfl⟩

/-- How many bytes are so, told by runes. -/
theorem many_at {p : UInt8 → Bool} : ∀ {l : List UInt8} {pos : Nat} {c : UInt8}, pos ≤ many p l → l[pos]? = some c → (p c = true → pos + 1 ≤ many p l) ∧ (p c = false → many p l = pos)
  | [], pos, c, _, h => by simp at h
  | d :: l, 0, c, _, h => by
    simp at h
    subst h
    unfold many
    rw [List.takeWhile_cons]
    cases hd : p d with
    | true => simp
    | false => simp
  | d :: l, pos + 1, c, hp, h => by
    have hd : p d = true := by
      cases hd : p d with
      | true => rfl
      | false =>
        unfold many at hp
        rw [List.takeWhile_cons, hd] at hp
        simp at hp
    have e : many p (d :: l) = many p l + 1 := by unfold many; rw [List.takeWhile_cons, hd]; simp
    rw [e] at hp ⊢
    have := many_at (p := p) (l := l) (pos := pos) (c := c) (by omega) (by simpa using h)
    exact ⟨fun h => by have := this.1 h; omega, fun h => by rw [this.2 h]⟩
theorem many_all {p : UInt8 → Bool} {l : List UInt8} (h : l.length ≤ many p l) : many p l = l.length := by
  have := many_le p l
  omega
theorem below_iter (w : World) (s : ByteArray) (p : Nat) : Below w.heap.size w (w.iter s p) := (Below.refl _ w).alloc (Nat.le_refl _) _

set_option maxRecDepth 100000 in
set_option maxHeartbeats 4000000 in
theorem while_any (f : FuncId) (r : Nat → Bool) (p : UInt8 → Bool) (hfe : ∀ args w, (callFunc f args).run Tryd.prog w = .ok (.enter f args) w) (hf : ∀ (n : Nat) (w : World), Calls Tryd.prog f #[.int .i32 n] w fun e w' => e = .returned (.bool (r n)) ∧ w' = w) (hp : ∀ c : UInt8, c.toNat < 128 → p c = r c.toNat) (hp2 : ∀ c : UInt8, 128 ≤ c.toNat → p c = false) (hr : ∀ n, 128 ≤ n → r n = false)
    (s : ByteArray) (b off : Nat) (w : World) (hs : s.size ≤ 1000000) (h0 : w.cell? ⟨b, off, none⟩ = some (.string s)) :
    Calls Tryd.prog 35 #[.pointer (some ⟨b, off, none⟩), .func (.func f) #[] #[]] w fun e w' => e = .returned (.int .i64 (many p s.data.toList)) ∧ Below w.heap.size w w' := by
  have HF := Lib.hid hf
  clear hf
  have hb : b < w.heap.size := cell_lt h0
  generalize hm : many p s.data.toList = m at *
  go_enter Tryd.func35, Tryd.ntmps35
  go_wp2_with fail
  have hml : m ≤ s.size := by rw [← hm, ← bytes_len]; exact many_le _ _
  have HM := Lib.hid hm
  clear hm
  go_loopw [] (fun wr => ∃ (pos : Nat), wr = w.iter s pos ∧ pos ≤ m) (fun wr => s.size - wr.iterPos w.heap.size)
  case atStart => exact ⟨0, rfl, Nat.zero_le _⟩
  case round =>
    obtain ⟨pos, rfl, hpm⟩ := hrel
    have f0 : (w.iter s pos).cell? ⟨b, off, none⟩ = some (.string s) := (World.cell?_alloc_lt _ _ _ hb).trans h0
    have HB := Lib.hid (below_iter w s pos)
    by_cases hlt : pos < s.size
    · have g : s.data.toList[pos]? = some (s[pos]'hlt) := by
        rw [List.getElem?_eq_getElem (by rw [bytes_len]; exact hlt)]
        rfl
      obtain ⟨hat1, hat2⟩ := many_at (p := p) (by rw [HM.out]; exact hpm) g
      rw [HM.out] at hat1 hat2
      by_cases ha : (s[pos]'hlt).toNat < 128
      · have HN := run_next_ascii (P := Tryd.prog) w s pos
        have hc := hp _ ha
        have HFc := Lib.hid (HF.out (s[pos]'hlt).toNat (w.iter s (pos + 1)))
        rw [← hc] at HFc
        cases hpc : p (s[pos]'hlt) with
        | true =>
          rw [hpc] at HFc
          have := hat1 hpc
          clear hpc hc hat1 hat2 g
          go_wp2_with fail
          refine HFc.out.mono ?_
          rintro e w1 ⟨rfl, rfl⟩
          go_wp2_with fail
          go_roundw
          case rel => exact ⟨pos + 1, rfl, by omega⟩
          case measure => simp; omega
        | false =>
          rw [hpc] at HFc
          obtain rfl := hat2 hpc
          clear hpc hc hat1 hat2 g
          go_wp2_with fail
          refine HFc.out.mono ?_
          rintro e w1 ⟨rfl, rfl⟩
          go_wp2_with fail
          go_ret
          exact ⟨rfl, below_iter _ _ _⟩
      · have HN := run_next_any (P := Tryd.prog) w s pos
        obtain ⟨hh1, hh2⟩ := decode_high s pos hlt (by omega)
        have hc := hp2 _ (show 128 ≤ (s[pos]'hlt).toNat by omega)
        have HFc := Lib.hid (HF.out (Utf8.decode s pos).1 (w.iter s (pos + (Utf8.decode s pos).2)))
        rw [hr _ hh1] at HFc
        obtain rfl := hat2 hc
        clear hc hat1 hat2 g
        go_wp2_with fail
        refine HFc.out.mono ?_
        rintro e w1 ⟨rfl, rfl⟩
        go_wp2_with fail
        go_ret
        exact ⟨rfl, below_iter _ _ _⟩
    · have HN := fun ty => run_next_end (P := Tryd.prog) w s s.size ty (Nat.lt_irrefl _)
      have hml2 := Lib.hid (show m = s.size by omega)
      obtain rfl : pos = s.size := by omega
      go_wp2_with fail
      go_ret
      exact ⟨by rw [hml2.out]; rfl, below_iter _ _ _⟩
theorem fe (f : FuncId) (h : f = 36 ∨ f = 39 ∨ f = 41) : ∀ args w, (callFunc f args).run Tryd.prog w = .ok (.enter f args) w := by
  rcases h with rfl | rfl | rfl
  · exact enters_of Tryd.func36 (by kernel_rfl) rfl
  · exact enters_of Tryd.func39 (by kernel_rfl) rfl
  · exact enters_of Tryd.func41 (by kernel_rfl) rfl
/-- How many blanks, digits, bytes of a name. -/
theorem whileBlank_any (s : ByteArray) (b off : Nat) (w : World) (hs : s.size ≤ 1000000) (h0 : w.cell? ⟨b, off, none⟩ = some (.string s)) :
    Calls Tryd.prog 35 #[.pointer (some ⟨b, off, none⟩), .func (.func 36) #[] #[]] w fun e w' => e = .returned (.int .i64 (dBlanks s)) ∧ Below w.heap.size w w' :=
  while_any _ rBlank isBlank (fe _ (.inl rfl)) isBlank_any (fun c hc => by
      unfold isBlank rBlank
      have h1 : (c == 32) = (c.toNat == 32) := by rw [Bool.eq_iff_iff]; simp [← UInt8.toNat_inj]
      have h2 : (c == 9) = (c.toNat == 9) := by rw [Bool.eq_iff_iff]; simp [← UInt8.toNat_inj]
      rw [h1, h2]) (fun c hc => by
      unfold isBlank
      have h1 : c ≠ 32 := fun e => by rw [e] at hc; exact absurd hc (by decide)
      have h2 : c ≠ 9 := fun e => by rw [e] at hc; exact absurd hc (by decide)
      simp [h1, h2]) (fun n hn => by unfold rBlank; simp; omega) s b off w hs h0
theorem whileDigit_any (s : ByteArray) (b off : Nat) (w : World) (hs : s.size ≤ 1000000) (h0 : w.cell? ⟨b, off, none⟩ = some (.string s)) :
    Calls Tryd.prog 35 #[.pointer (some ⟨b, off, none⟩), .func (.func 39) #[] #[]] w fun e w' => e = .returned (.int .i64 (dDigits s)) ∧ Below w.heap.size w w' :=
  while_any _ rDig isDig (fe _ (.inr (.inl rfl))) isDigit_any (fun c hc => rfl) (fun c hc => by unfold isDig; simp; omega) (fun n hn => by unfold rDig; simp; omega) s b off w hs h0
def isPartB (c : UInt8) : Bool := isLet c || isDig c
theorem let_r (c : UInt8) : isLet c = rLet c.toNat := by
  unfold isLet rLet
  have h1 : (c == 95) = (c.toNat == 95) := by rw [Bool.eq_iff_iff]; simp [← UInt8.toNat_inj]
  rw [h1]
theorem whilePart_any (s : ByteArray) (b off : Nat) (w : World) (hs : s.size ≤ 1000000) (h0 : w.cell? ⟨b, off, none⟩ = some (.string s)) :
    Calls Tryd.prog 35 #[.pointer (some ⟨b, off, none⟩), .func (.func 41) #[] #[]] w fun e w' => e = .returned (.int .i64 (many isPartB s.data.toList)) ∧ Below w.heap.size w w' :=
  while_any _ rPart isPartB (fe _ (.inr (.inr rfl))) isPart_any (fun c hc => by unfold isPartB rPart; rw [let_r]; rfl) (fun c hc => by
    unfold isPartB
    rw [let_r]
    unfold rLet isDig
    simp
    omega) (fun n hn => by unfold rPart rLet rDig; simp; omega) s b off w hs h0
theorem word_many {s : ByteArray} (h : 0 < dWord s) : many isPartB s.data.toList = dWord s := by
  unfold dWord wordL at *
  cases hl : s.data.toList with
  | nil => rw [hl] at h; simp at h
  | cons c l =>
    rw [hl] at h
    simp only at h ⊢
    split at h
    · rename_i hc
      rw [if_pos hc]
      unfold many
      rw [List.takeWhile_cons, if_pos (by unfold isPartB; rw [hc]; rfl)]
      rfl
    · omega
end Go.Proofs.YteojnejomgomjaaDoor
