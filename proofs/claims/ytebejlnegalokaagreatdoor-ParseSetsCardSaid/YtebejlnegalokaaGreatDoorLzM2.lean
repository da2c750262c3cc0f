/-
  XLxPr, turned: what this seat needs of it.
-/
import Derived.Test.YtebejlnegalokaaGreatDoorProg
import Derived.Test.YtebejlnegalokaaGreatDoorReg
import Derived.WalkKit
import Derived.WalkSpells
import Derived.WalkLawsBesides
import Derived.Lib.Hide
import Derived.Lib.MinMax
import Derived.Deep.QuietTactic
import Derived.BigQuiet
import Derived.OwnWalk
import Derived.Deep.AppendLies
import Derived.KernelRfl
import Derived.Test.YtebejlnegalokaaGreatDoorReg
import Derived.WalkKit
import Derived.Lib.TrimU
import Derived.Lib.QuoteLoop
import Derived.Below
import Derived.Laws.OwnMore
import Derived.Deep.Draws
import Derived.Deep.AppendLies
import Derived.Shelf.Strings.BuilderF
import Derived.Lib.FrozenHead2
import Derived.Deep.OwnRows
import Derived.Maps.AppendAt
import Derived.Deep.RegionWith
import Derived.Test.YtebejlnegalokaaGreatDoorMap
import Derived.Test.YtebejlnegalokaaGreatDoorRegZ
import Derived.Laws.RangeAny
import Derived.Shelf.Abstract
import Derived.Maps.OwnSet
import Derived.OneCell
import Derived.Laws.Rows
import Derived.Tactics
import Derived.Tactics2
import Derived.Defers
import Derived.Laws.Pointers
import Derived.Laws.LoneSync
import Derived.RegionTactic
import Derived.RegionCalls
import Derived.ChangeAlike
import Derived.RangeFuncNested
import Derived.RangeFuncBound
import Derived.RangeFuncCalls
import Derived.RangeFuncLeaves
import Derived.RangeFuncBox
import Derived.OwnWalkIn
import Derived.TacticsInMore
import Derived.LoopNIn
import Derived.LoopIn
import Derived.Deep.RegionLaw
import Derived.Deep.Cut
import Derived.Test.YtebejlnegalokaaGreatDoorRegIn
import Derived.Test.YtebejlnegalokaaGreatDoorJoint2
import Derived.Test.YtebejlnegalokaaGreatDoorRegG
import Derived.Test.YtebejlnegalokaaGreatDoorMapI
import Derived.Lib.TrimByte
import Derived.Test.YtebejlnegalokaaGreatDoorLzM1
set_option linter.unusedSimpArgs false
set_option linter.unusedVariables false
namespace Go.Proofs.YtebejlnegalokaaGreatDoor.Lz
open Go.RowKit Go.Maps
set_option maxRecDepth 100000 in
set_option maxHeartbeats 8000000 in
theorem refPlain_any (l : List Tok) (A : Option Addr) (c : Nat) (w : World) (hl : l.length ≤ 100000) (hA : HoldsT w A l) :
    Calls Tryz.prog 42 #[.slice A l.length c] w fun e w' => ∃ v, e = .returned v ∧ w'.ownsRow w.heap.size tK 3 v (plainT l).length (tokCells (plainT l)) ∧ Below w.heap.size w w' := by
  have HA := Lib.hid hA
  clear hA
  go_enter Tryz.func42, Tryz.ntmps42
  go_wp2_with fail
  go_loopw [3, 4] (fun v i wr => ∃ (k : Nat) (L : List Tok), i = .int .i64 k ∧ k ≤ l.length ∧ Hid (L = plainT (l.take k)) ∧ Hid (wr.ownsRow w.heap.size tK 3 v L.length (tokCells L)) ∧ Hid (Below w.heap.size w wr)) (fun _ i _ => l.length - (intOf i).toNat)
  case atStart => exact ⟨0, [], rfl, Nat.zero_le _, Lib.hid rfl, Lib.hid (World.ownsRow_nil _ _ _ _), Lib.hid (Below.refl _ _)⟩
  case round =>
    obtain ⟨k, L, rfl, hk, HL, HO, HB⟩ := hrel
    by_cases hlt : k < l.length
    · have ga := List.getElem?_eq_getElem (l := l) (i := k) hlt
      have hsn := plainT_snoc ga
      generalize l[k]'hlt = x at *
      have hLl : L.length ≤ 100000 := by
        have h1 := plain_len (l.take k)
        rw [HL.out, List.length_take] at *
        omega
      have HSN := Lib.hid hsn
      obtain ⟨b, off, rfl, d0, d1, d2⟩ := (HA.out.below HB.out) k x ga
      have hsz := HB.out.size
      clear ga hsn
      have lb := cell_lt d0
      simp only at lb
      have hB1 : Below wr.heap.size wr (wr.alloc (.cells #[.int .i64 x.kind, .string x.text, .string x.glyph] tK)) := below_new wr _
      obtain ⟨A5, c5, rfl, _, _, _⟩ := holdsT_of_own HO.out
      rcases plain_ways x with ⟨hp, q1⟩ | ⟨hp, q1, q2⟩ | ⟨hp, q1, q2⟩
      · have HL2 : Hid (L = plainT (l.take (k + 1))) := Lib.hid (by rw [HSN.out, hp, if_neg (by simp), List.append_nil]; exact HL.out)
        have HO2 := Lib.hid HO.out
        have HB2 := Lib.hid HB.out
        clear hp HSN hB1
        go_wp2_with fail
        go_roundw
        case rel => exact ⟨k + 1, L, by go_num, by omega, HL2, HO2, HB2⟩
        case measure => simp [intOf]; omega
      · have HL2 : Hid (L = plainT (l.take (k + 1))) := Lib.hid (by rw [HSN.out, hp, if_neg (by simp), List.append_nil]; exact HL.out)
        have HO2 := Lib.hid HO.out
        have HB2 := Lib.hid HB.out
        clear hp HSN hB1
        go_wp2_with fail
        go_roundw
        case rel => exact ⟨k + 1, L, by go_num, by omega, HL2, HO2, HB2⟩
        case measure => simp [intOf]; omega
      · have HL2 : Hid (L ++ [x] = plainT (l.take (k + 1))) := Lib.hid (by rw [HSN.out, hp, if_pos rfl, ← HL.out])
        have hO2 := own_below HO.out hB1
        obtain ⟨A9, c9, w9, hrun, hN9, hgr9, _⟩ := push_tok (x := x) (g := wr.heap.size) (heap_alloc_new wr _) hO2 (by omega) (by simp; omega)
        have HN9 := Lib.hid hN9
        have HB9 := Lib.hid ((HB.out.trans (hB1.mono hsz)).grown hgr9 (by simp; omega) (fun kk e => ownBlock_ge HO.out kk e))
        clear hp HSN hB1 hO2 hN9 hgr9
        go_wp2_with (at_builtin; go_must (refine wpList_append_run rfl _ _ 34 34 rfl rfl rfl hrun ?_))
        go_roundw
        case rel => exact ⟨k + 1, _, by go_num, by omega, HL2, HN9, HB9⟩
        case measure => simp [intOf]; omega
    · obtain rfl : k = l.length := by omega
      have HL2 : Hid (L = plainT l) := Lib.hid (by rw [HL.out, List.take_of_length_le (Nat.le_refl _)])
      go_wp2_with fail
      go_ret
      exact ⟨_, rfl, by rw [← HL2.out]; exact HO.out, HB.out⟩
end Go.Proofs.YtebejlnegalokaaGreatDoor.Lz
/-
  XRf0, turned: what this seat needs of it.
-/
namespace Go.Proofs.YtebejlnegalokaaGreatDoor.Lz.Rf
open Go.RowKit
def toB (l : List UInt8) : ByteArray := ⟨l.toArray⟩
theorem toB_of (s : ByteArray) : toB s.data.toList = s := bytes_eq rfl
def GivesT (l : List Tok) (e : Ending) (w w1 : World) : Prop := ∃ A c, e = .returned (.slice A l.length c) ∧ HoldsT w1 A l ∧ l.length ≤ c ∧ Below w.heap.size w w1
end Go.Proofs.YtebejlnegalokaaGreatDoor.Lz.Rf
/-
  XRfA, turned: what this seat needs of it.
-/
namespace Go.Proofs.YtebejlnegalokaaGreatDoor.Lz.Rf
open Go.RowKit
/-- The table lies at block b. -/
def HoldsG (w : World) (b : Nat) : Prop := ∀ (k : Nat) (x : Gly), glyphs[k]? = some x → w.cell? ⟨b, k * 3, none⟩ = some (.string x.glyph) ∧ w.cell? ⟨b, k * 3 + 1, none⟩ = some (.string x.letter) ∧ w.cell? ⟨b, k * 3 + 2, none⟩ = some (.int .i64 x.cls)
set_option maxRecDepth 100000 in
set_option maxHeartbeats 4000000 in
theorem table_any (w : World) :
    Calls Tryz.prog 114 #[] w fun r w' => r = .returned (.slice (some ⟨w.heap.size, 0, none⟩) 38 38) ∧ HoldsG w' w.heap.size ∧ Below w.heap.size w w' := by
  have K := Lib.hid (show ∀ k x, glyphs[k]? = some x → _ from fun k x h => glyCells_get glyphs k x h)
  go_enter Tryz.func114, Tryz.ntmps114
  go_wp2_with fail
  go_ret
  refine ⟨rfl, fun k x hx => ?_, (Below.refl _ _).alloc (Nat.le_refl _) _⟩
  obtain ⟨k1, k2, k3⟩ := K.out k x hx
  refine ⟨?_, ?_, ?_⟩
  · rw [World.cell?_alloc_at _ _ _ _ rfl, ← k1]
    exact (congrArg (fun a : Array Value => a[k * 3]?) (show _ = (glyCells glyphs).toArray by kernel_rfl)).trans (by simp)
  · rw [World.cell?_alloc_at _ _ _ _ rfl, ← k2]
    exact (congrArg (fun a : Array Value => a[k * 3 + 1]?) (show _ = (glyCells glyphs).toArray by kernel_rfl)).trans (by simp)
  · rw [World.cell?_alloc_at _ _ _ _ rfl, ← k3]
    exact (congrArg (fun a : Array Value => a[k * 3 + 2]?) (show _ = (glyCells glyphs).toArray by kernel_rfl)).trans (by simp)
set_option maxRecDepth 100000 in
set_option maxHeartbeats 4000000 in
theorem begins_any (s t : ByteArray) (w : World) (hs : s.size ≤ maxLen) (ht : t.size ≤ maxLen) :
    Calls Tryz.prog 115 #[.string s, .string t] w fun r w' => r = .returned (.bool (begins s t)) ∧ w' = w := by
  unfold maxLen at hs ht
  unfold begins
  by_cases h : t.size ≤ s.size
  · have h1 : (t.size : Int) ≤ (s.size : Int) := by omega
    have h0 : (0 : Int) ≤ (t.size : Int) := by omega
    by_cases e : s.extract 0 t.size = t
    · have q := bytes_beq_yes e
      have E := Lib.hid e
      clear e
      go_enter Tryz.func115, Tryz.ntmps115
      go_wp2_with fail
      all_goals go_ret
      all_goals exact ⟨by simp [E.out, h], rfl⟩
    · have q := bytes_beq_no e
      have E := Lib.hid e
      clear e
      go_enter Tryz.func115, Tryz.ntmps115
      go_wp2_with fail
      all_goals go_ret
      all_goals exact ⟨by simp [E.out, h], rfl⟩
  · have h1 : ¬ (t.size : Int) ≤ (s.size : Int) := by omega
    go_enter Tryz.func115, Tryz.ntmps115
    go_wp2_with fail
    all_goals go_ret
    all_goals exact ⟨by simp [h], rfl⟩
theorem bytes_len (s : ByteArray) : s.data.toList.length = s.size := rfl
theorem byte_get (s : ByteArray) (n : Nat) (h : n < s.size) : s.data.toList[n]'(by rw [bytes_len]; exact h) = s[n] := by
  simp [ByteArray.getElem_eq_getElem_data]
/-- A run, from place n on. -/
theorem many_go {p : UInt8 → Bool} {l : List UInt8} {n g : Nat} (h : n < l.length) (hp : p l[n] = true) (hn : n + many p (l.drop n) = g) : n + 1 + many p (l.drop (n + 1)) = g := by
  have e : many p (l.drop n) = many p (l.drop (n + 1)) + 1 := by
    rw [List.drop_eq_getElem_cons h]
    unfold many
    rw [List.takeWhile_cons, hp]
    simp
  omega
theorem many_stop {p : UInt8 → Bool} {l : List UInt8} {n g : Nat} (h : n < l.length) (hp : p l[n] = false) (hn : n + many p (l.drop n) = g) : n = g := by
  have e : many p (l.drop n) = 0 := by
    rw [List.drop_eq_getElem_cons h]
    unfold many
    rw [List.takeWhile_cons, hp]
    simp
  omega
theorem many_end {p : UInt8 → Bool} {l : List UInt8} {n g : Nat} (h : l.length ≤ n) (hn : n + many p (l.drop n) = g) : n = g := by
  rw [← hn, List.drop_of_length_le h]
  simp [many]
theorem isLetter_any (c : UInt8) (w : World) : Calls Tryz.prog 117 #[.int .u8 c.toNat] w fun r w' => r = .returned (.bool (isLet c)) ∧ w' = w := by
  have e : (c == 95) = decide (c.toNat = 95) := by
    rw [Bool.eq_iff_iff, beq_iff_eq, decide_eq_true_eq]
    exact ⟨fun h => by rw [h]; rfl, fun h => UInt8.toNat_inj.1 h⟩
  unfold isLet
  rw [e]
  clear e
  generalize c.toNat = n
  by_cases h1 : 97 ≤ n <;> by_cases h2 : n ≤ 122 <;> by_cases h3 : 65 ≤ n <;> by_cases h4 : n ≤ 90 <;> by_cases h5 : n = 95
  all_goals try (exfalso; omega)
  all_goals
    first
      | have q1 : (97 : Int) ≤ (n : Int) := by omega
      | have q1 : ¬ (97 : Int) ≤ (n : Int) := by omega
    first
      | have q2 : (n : Int) ≤ 122 := by omega
      | have q2 : ¬ (n : Int) ≤ 122 := by omega
    first
      | have q3 : (65 : Int) ≤ (n : Int) := by omega
      | have q3 : ¬ (65 : Int) ≤ (n : Int) := by omega
    first
      | have q4 : (n : Int) ≤ 90 := by omega
      | have q4 : ¬ (n : Int) ≤ 90 := by omega
    first
      | have q5 : ((n : Int) == 95) = true := by simp; omega
      | have q5 : ((n : Int) == 95) = false := by simp; omega
    go_enter Tryz.func117, Tryz.ntmps117
    go_wp2_with fail
    all_goals go_ret
    all_goals exact ⟨by simp [h1, h2, h3, h4, h5], rfl⟩
theorem isDigit_any (c : UInt8) (w : World) : Calls Tryz.prog 95 #[.int .u8 c.toNat] w fun r w' => r = .returned (.bool (isDig c)) ∧ w' = w := by
  unfold isDig
  generalize c.toNat = n
  by_cases h1 : 48 ≤ n <;> by_cases h2 : n ≤ 57
  all_goals try (exfalso; omega)
  all_goals
    first
      | have q1 : (48 : Int) ≤ (n : Int) := by omega
      | have q1 : ¬ (48 : Int) ≤ (n : Int) := by omega
    first
      | have q2 : (n : Int) ≤ 57 := by omega
      | have q2 : ¬ (n : Int) ≤ 57 := by omega
    go_enter Tryz.func95, Tryz.ntmps95
    go_wp2_with fail
    all_goals go_ret
    all_goals exact ⟨by simp [h1, h2], rfl⟩
set_option maxRecDepth 100000 in
set_option maxHeartbeats 2000000 in
theorem digits_any (s : ByteArray) (w : World) (hs : s.size ≤ 1000000) :
    Calls Tryz.prog 116 #[.string s] w fun r w' => r = .returned (.int .i64 (dDigits s)) ∧ w' = w := by
  have D := Lib.hid isDigit_any
  go_enter Tryz.func116, Tryz.ntmps116
  go_wp2
  go_loop [3] (fun i => ∃ k : Nat, k ≤ s.size ∧ i = .int .i64 k ∧ k + many isDig (s.data.toList.drop k) = dDigits s) (fun i => s.size - (intOf i).toNat)
  case atStart => exact ⟨0, by omega, rfl, by simp [dDigits]⟩
  case round =>
    obtain ⟨k, hk, rfl, hr⟩ := hrel
    by_cases hlt : k < s.size
    · have hl : k < s.data.toList.length := hlt
      have hg := byte_get s k hlt
      have G := Lib.hid (fun hp => many_go (p := isDig) hl hp hr)
      have T := Lib.hid (fun hp => many_stop (p := isDig) hl hp hr)
      rw [hg] at G T
      clear hr hg
      cases hd : isDig s[k] with
      | true =>
        have Z := Lib.hid (G.out hd)
        have D1 := Lib.hid (D.out s[k])
        rw [hd] at D1
        clear G T hd D
        go_wp2_with fail
        refine (D1.out _).mono ?_
        rintro r w' ⟨rfl, rfl⟩
        go_wp2_with fail
        go_round
        case rel => exact ⟨k + 1, by omega, by go_num, Z.out⟩
        case measure => simp [intOf]; omega
      | false =>
        have Z := Lib.hid (T.out hd)
        have D1 := Lib.hid (D.out s[k])
        rw [hd] at D1
        clear G T hd D
        go_wp2_with fail
        refine (D1.out _).mono ?_
        rintro r w' ⟨rfl, rfl⟩
        go_wp2_with fail
        go_ret
        exact ⟨by rw [← Z.out]; rfl, rfl⟩
    · obtain rfl : k = s.size := by omega
      have Z := Lib.hid (many_end (p := isDig) (by rw [bytes_len]; omega) hr)
      clear hr
      go_wp2_with fail
      go_ret
      exact ⟨by rw [← Z.out]; rfl, rfl⟩
def isWord (c : UInt8) : Bool := isLet c || isDig c
set_option maxRecDepth 100000 in
set_option maxHeartbeats 4000000 in
theorem word_any (s : ByteArray) (w : World) (hs : s.size ≤ 1000000) :
    Calls Tryz.prog 96 #[.string s] w fun r w' => r = .returned (.int .i64 (dWord s)) ∧ w' = w := by
  have D := Lib.hid isDigit_any
  have L := Lib.hid isLetter_any
  go_enter Tryz.func96, Tryz.ntmps96
  go_wp2
  go_loop [3] (fun i => ∃ k : Nat, k ≤ s.size ∧ i = .int .i64 k ∧ (k = 0 ∨ 0 < k ∧ k + many isWord (s.data.toList.drop k) = dWord s)) (fun i => s.size - (intOf i).toNat)
  case atStart => exact ⟨0, by omega, rfl, Or.inl rfl⟩
  case round =>
    obtain ⟨k, hk, rfl, hr⟩ := hrel
    by_cases hlt : k < s.size
    · have hl : k < s.data.toList.length := hlt
      have hg := byte_get s k hlt
      rcases hr with rfl | ⟨hk0, hr⟩
      · have hw : s.data.toList = s[0] :: s.data.toList.drop 1 := by
          rw [← hg]
          exact List.drop_eq_getElem_cons hl
        have G : Hid (isLet s[0] = true → 0 + 1 + many isWord (s.data.toList.drop (0 + 1)) = dWord s) := Lib.hid (fun h => by
          unfold dWord
          rw [hw]
          simp only [wordL, h, if_true, List.drop_succ_cons, List.drop_zero]
          show _ = many isWord _ + 1
          omega)
        have T : Hid (isLet s[0] = false → 0 = dWord s) := Lib.hid (fun h => by
          unfold dWord
          rw [hw]
          simp [wordL, h])
        clear hw hg
        cases hd : isLet s[0] with
        | true =>
          have Z := Lib.hid (G.out hd)
          have L1 := Lib.hid (L.out s[0])
          rw [hd] at L1
          clear G T hd L D
          go_wp2_with fail
          refine (L1.out _).mono ?_
          rintro r w' ⟨rfl, rfl⟩
          go_wp2_with fail
          go_round
          case rel => exact ⟨0 + 1, by omega, by go_num, Or.inr ⟨by omega, Z.out⟩⟩
          case measure => simp [intOf]; omega
        | false =>
          have Z := Lib.hid (T.out hd)
          have L1 := Lib.hid (L.out s[0])
          rw [hd] at L1
          clear G T hd L D
          go_wp2_with fail
          refine (L1.out _).mono ?_
          rintro r w' ⟨rfl, rfl⟩
          go_wp2_with fail
          go_ret
          exact ⟨by rw [← Z.out]; rfl, rfl⟩
      · have G := Lib.hid (fun hp => many_go (p := isWord) hl hp hr)
        have T := Lib.hid (fun hp => many_stop (p := isWord) hl hp hr)
        rw [hg] at G T
        clear hr hg
        have q0 : (0 : Int) < (k : Int) := by omega
        cases hd : isLet s[k] with
        | true =>
          have Z := Lib.hid (G.out (by simp [isWord, hd]))
          have L1 := Lib.hid (L.out s[k])
          rw [hd] at L1
          clear G T hd L D
          go_wp2_with fail
          refine (L1.out _).mono ?_
          rintro r w' ⟨rfl, rfl⟩
          go_wp2_with fail
          go_round
          case rel => exact ⟨k + 1, by omega, by go_num, Or.inr ⟨by omega, Z.out⟩⟩
          case measure => simp [intOf]; omega
        | false =>
          have L1 := Lib.hid (L.out s[k])
          have D1 := Lib.hid (D.out s[k])
          rw [hd] at L1
          cases hq : isDig s[k] with
          | true =>
            have Z := Lib.hid (G.out (by simp [isWord, hq]))
            rw [hq] at D1
            clear G T hd hq L D
            go_wp2_with fail
            refine (L1.out _).mono ?_
            rintro r w' ⟨rfl, rfl⟩
            go_wp2_with fail
            refine (D1.out _).mono ?_
            rintro r w' ⟨rfl, rfl⟩
            go_wp2_with fail
            go_round
            case rel => exact ⟨k + 1, by omega, by go_num, Or.inr ⟨by omega, Z.out⟩⟩
            case measure => simp [intOf]; omega
          | false =>
            have Z := Lib.hid (T.out (by simp [isWord, hd, hq]))
            rw [hq] at D1
            clear G T hd hq L D
            go_wp2_with fail
            refine (L1.out _).mono ?_
            rintro r w' ⟨rfl, rfl⟩
            go_wp2_with fail
            refine (D1.out _).mono ?_
            rintro r w' ⟨rfl, rfl⟩
            go_wp2_with fail
            go_ret
            exact ⟨by rw [← Z.out]; rfl, rfl⟩
    · obtain rfl : k = s.size := by omega
      have Z : Hid (s.size = dWord s) := Lib.hid (by
        rcases hr with h | ⟨_, hr⟩
        · have : s.data.toList = [] := List.eq_nil_of_length_eq_zero (by rw [bytes_len]; exact h)
          unfold dWord
          rw [this, h]
          rfl
        · exact many_end (p := isWord) (by rw [bytes_len]; omega) hr)
      clear hr
      go_wp2_with fail
      go_ret
      exact ⟨by rw [← Z.out]; rfl, rfl⟩
set_option maxRecDepth 100000 in
set_option maxHeartbeats 2000000 in
theorem blanks_any (s : ByteArray) (w : World) (hs : s.size ≤ 1000000) :
    Calls Tryz.prog 92 #[.string s] w fun r w' => r = .returned (.int .i64 (dBlanks s)) ∧ w' = w := by
  go_enter Tryz.func92, Tryz.ntmps92
  go_wp2
  go_loop [3] (fun i => ∃ k : Nat, k ≤ s.size ∧ i = .int .i64 k ∧ k + many isBlank (s.data.toList.drop k) = dBlanks s) (fun i => s.size - (intOf i).toNat)
  case atStart => exact ⟨0, by omega, rfl, by simp [dBlanks]⟩
  case round =>
    obtain ⟨k, hk, rfl, hr⟩ := hrel
    by_cases hlt : k < s.size
    · have hl : k < s.data.toList.length := hlt
      have hg := byte_get s k hlt
      have G := Lib.hid (fun hp => many_go (p := isBlank) hl hp hr)
      have T := Lib.hid (fun hp => many_stop (p := isBlank) hl hp hr)
      rw [hg] at G T
      clear hr hg
      by_cases h1 : s[k].toNat = 32
      · have hd : isBlank s[k] = true := by
          have : s[k] = 32 := UInt8.toNat_inj.1 h1
          simp [isBlank, this]
        have Z := Lib.hid (G.out hd)
        have q1 : ((s[k].toNat : Int) == 32) = true := by simp; omega
        clear G T hd
        go_wp2_with fail
        go_round
        case rel => exact ⟨k + 1, by omega, by go_num, Z.out⟩
        case measure => simp [intOf]; omega
      · have q1 : ((s[k].toNat : Int) == 32) = false := by simp; omega
        by_cases h2 : s[k].toNat = 9
        · have hd : isBlank s[k] = true := by
            have : s[k] = 9 := UInt8.toNat_inj.1 h2
            simp [isBlank, this]
          have Z := Lib.hid (G.out hd)
          have q2 : ((s[k].toNat : Int) == 9) = true := by simp; omega
          clear G T hd
          go_wp2_with fail
          go_round
          case rel => exact ⟨k + 1, by omega, by go_num, Z.out⟩
          case measure => simp [intOf]; omega
        · have hd : isBlank s[k] = false := by
            have e1 : s[k] ≠ 32 := fun e => h1 (by rw [e]; rfl)
            have e2 : s[k] ≠ 9 := fun e => h2 (by rw [e]; rfl)
            simp [isBlank, e1, e2]
          have Z := Lib.hid (T.out hd)
          have q2 : ((s[k].toNat : Int) == 9) = false := by simp; omega
          clear G T hd
          go_wp2_with fail
          go_ret
          exact ⟨by rw [← Z.out]; rfl, rfl⟩
    · obtain rfl : k = s.size := by omega
      have Z := Lib.hid (many_end (p := isBlank) (by rw [bytes_len]; omega) hr)
      clear hr
      go_wp2_with fail
      go_ret
      exact ⟨by rw [← Z.out]; rfl, rfl⟩
theorem quo_other {s : ByteArray} {k g : Nat} (h : k < s.size) (hc : s[k] ≠ 39) (hn : quoGo (s.data.toList.drop k) k = g) : quoGo (s.data.toList.drop (k + 1)) (k + 1) = g := by
  rw [← hn, List.drop_eq_getElem_cons (show k < s.data.toList.length from h), byte_get s k h]
  cases s.data.toList.drop (k + 1) <;> simp [quoGo, hc]
theorem quo_last {s : ByteArray} {k g : Nat} (h : k + 1 = s.size) (hc : s[k]'(by omega) = 39) (hn : quoGo (s.data.toList.drop k) k = g) : k + 1 = g := by
  have e : s.data.toList.drop k = [s[k]'(by omega)] := by
    rw [List.drop_eq_getElem_cons (show k < s.data.toList.length from by rw [bytes_len]; omega), byte_get s k (by omega), List.drop_of_length_le (by rw [bytes_len]; omega)]
  rw [← hn, e]
  simp [quoGo, hc]
theorem quo_end {s : ByteArray} {k g : Nat} (h : k + 1 < s.size) (hc : s[k]'(by omega) = 39) (hd : s[k + 1] ≠ 39) (hn : quoGo (s.data.toList.drop k) k = g) : k + 1 = g := by
  rw [← hn, List.drop_eq_getElem_cons (show k < s.data.toList.length from by rw [bytes_len]; omega), byte_get s k (by omega), List.drop_eq_getElem_cons (show k + 1 < s.data.toList.length from h), byte_get s (k + 1) h]
  simp [quoGo, hc, hd]
theorem quo_two {s : ByteArray} {k g : Nat} (h : k + 1 < s.size) (hc : s[k]'(by omega) = 39) (hd : s[k + 1] = 39) (hn : quoGo (s.data.toList.drop k) k = g) : quoGo (s.data.toList.drop (k + 1 + 1)) (k + 1 + 1) = g := by
  rw [← hn, List.drop_eq_getElem_cons (show k < s.data.toList.length from by rw [bytes_len]; omega), byte_get s k (by omega), List.drop_eq_getElem_cons (show k + 1 < s.data.toList.length from h), byte_get s (k + 1) h]
  simp [quoGo, hc, hd]
theorem quo_none {s : ByteArray} {k g : Nat} (h : s.size ≤ k) (hn : quoGo (s.data.toList.drop k) k = g) : 0 = g := by
  rw [← hn, List.drop_of_length_le (by rw [bytes_len]; exact h)]
  rfl
set_option maxRecDepth 100000 in
set_option maxHeartbeats 4000000 in
theorem quoted_any (s : ByteArray) (w : World) (hs : s.size ≤ 1000000) :
    Calls Tryz.prog 93 #[.string s] w fun r w' => r = .returned (.int .i64 (dQuoted s)) ∧ w' = w := by
  go_enter Tryz.func93, Tryz.ntmps93
  go_wp2
  go_loop [3] (fun i => ∃ k : Nat, k ≤ s.size + 1 ∧ i = .int .i64 k ∧ quoGo (s.data.toList.drop k) k = dQuoted s) (fun i => s.size + 1 - (intOf i).toNat)
  case atStart => exact ⟨1, by omega, rfl, rfl⟩
  case round =>
    obtain ⟨k, hk, rfl, hr⟩ := hrel
    by_cases hlt : k < s.size
    · by_cases h1 : s[k].toNat = 39
      · have hc : s[k] = 39 := UInt8.toNat_inj.1 h1
        have q1 : ((s[k].toNat : Int) == 39) = true := by simp; omega
        have q1' : ((s[k].toNat : Int) != 39) = false := by rw [bne, q1]; rfl
        by_cases h2 : k + 1 = s.size
        · have Z := Lib.hid (quo_last h2 hc hr)
          have q2 : (((k : Int) + 1) == (s.size : Int)) = true := by simp; omega
          clear hr hc h1
          go_wp2_with fail
          go_ret
          exact ⟨by rw [← Z.out]; go_num, rfl⟩
        · have h3 : k + 1 < s.size := by omega
          have q2 : (((k : Int) + 1) == (s.size : Int)) = false := by simp; omega
          have e1 : ((k : Int) + 1).toNat = k + 1 := by omega
          have b0 : (0 : Int) ≤ (k : Int) + 1 := by omega
          have b1 : (k : Int) + 1 < (s.size : Int) := by omega
          by_cases h4 : s[k + 1].toNat = 39
          · have Z := Lib.hid (quo_two h3 hc (UInt8.toNat_inj.1 h4) hr)
            have q3 : ((s[k + 1].toNat : Int) == 39) = true := by simp; omega
            have q3' : ((s[k + 1].toNat : Int) != 39) = false := by rw [bne, q3]; rfl
            clear hr hc h1 h4
            go_wp2_with fail
            go_round
            case rel => exact ⟨k + 1 + 1, by omega, by go_num, Z.out⟩
            case measure => simp [intOf]; omega
          · have hd : s[k + 1] ≠ 39 := fun e => h4 (by rw [e]; rfl)
            have Z := Lib.hid (quo_end h3 hc hd hr)
            have q3 : ((s[k + 1].toNat : Int) == 39) = false := by simp; omega
            have q3' : ((s[k + 1].toNat : Int) != 39) = true := by rw [bne, q3]; rfl
            clear hr hc h1 h4 hd
            go_wp2_with fail
            go_ret
            exact ⟨by rw [← Z.out]; go_num, rfl⟩
      · have hc : s[k] ≠ 39 := fun e => h1 (by rw [e]; rfl)
        have q1 : ((s[k].toNat : Int) == 39) = false := by simp; omega
        have q1' : ((s[k].toNat : Int) != 39) = true := by rw [bne, q1]; rfl
        have Z := Lib.hid (quo_other hlt hc hr)
        clear hr hc h1
        go_wp2_with fail
        go_round
        case rel => exact ⟨k + 1, by omega, by go_num, Z.out⟩
        case measure => simp [intOf]; omega
    · have Z := Lib.hid (quo_none (show s.size ≤ k by omega) hr)
      have q0 : ¬ (k : Int) < (s.size : Int) := by omega
      clear hr
      go_wp2_with fail
      go_ret
      exact ⟨by rw [← Z.out]; rfl, rfl⟩
set_option maxRecDepth 100000 in
set_option maxHeartbeats 1000000 in
theorem kind_any (c : Int) (w : World) :
    Calls Tryz.prog 97 #[.int .i64 c] w fun r w' => r = .returned (.int .i64 (dKind c)) ∧ w' = w := by
  unfold dKind
  by_cases h1 : c = 1
  · subst h1
    go_enter Tryz.func97, Tryz.ntmps97
    go_wp2_with fail
    go_ret
    exact ⟨rfl, rfl⟩
  · by_cases h2 : c = 2
    · subst h2
      go_enter Tryz.func97, Tryz.ntmps97
      go_wp2_with fail
      go_ret
      exact ⟨rfl, rfl⟩
    · by_cases h3 : c = 3
      · subst h3
        go_enter Tryz.func97, Tryz.ntmps97
        go_wp2_with fail
        go_ret
        exact ⟨rfl, rfl⟩
      · have q1 : (c == 1) = false := by simpa using h1
        have q2 : (c == 2) = false := by simpa using h2
        have q3 : (c == 3) = false := by simpa using h3
        go_enter Tryz.func97, Tryz.ntmps97
        go_wp2_with fail
        go_ret
        exact ⟨by simp [h1, h2, h3], rfl⟩
theorem glyphs_len : glyphs.length = 38 := by decide +kernel
theorem glyphs_at {k : Nat} (h : k < 38) : ∃ x, glyphs[k]? = some x ∧ glyphs.drop k = x :: glyphs.drop (k + 1) := by
  have hl : k < glyphs.length := by rw [glyphs_len]; exact h
  exact ⟨glyphs[k], List.getElem?_eq_getElem hl, List.drop_eq_getElem_cons hl⟩
theorem glyphs_size {k : Nat} {x : Gly} (h : glyphs[k]? = some x) : x.glyph.size ≤ 4 ∧ x.letter.size ≤ 4 := by
  have h1 : ∀ y ∈ glyphs, y.glyph.size ≤ 4 ∧ y.letter.size ≤ 4 := by decide +kernel
  exact h1 x (List.mem_of_getElem? h)
set_option maxRecDepth 100000 in
set_option maxHeartbeats 4000000 in
theorem class_any (g : ByteArray) (w : World) :
    Calls Tryz.prog 91 #[.string g] w fun r w' => r = .returned (.int .i64 (gClass g)) ∧ Below w.heap.size w w' := by
  have T := Lib.hid table_any
  go_enter Tryz.func91, Tryz.ntmps91
  go_wp2_with fail
  refine (T.out _).mono ?_
  rintro r w1 ⟨rfl, hT, hb⟩
  have HT := Lib.hid hT
  have B := Lib.hid hb
  clear hT hb T
  go_wp2_with fail
  go_loop [4] (fun i => ∃ k : Nat, k ≤ 38 ∧ i = .int .i64 k ∧ classIn g (glyphs.drop k) = gClass g) (fun i => 38 - (intOf i).toNat)
  case atStart => exact ⟨0, by omega, rfl, rfl⟩
  case round =>
    obtain ⟨k, hk, rfl, hr⟩ := hrel
    by_cases hlt : k < 38
    · obtain ⟨x, hx, hd⟩ := glyphs_at hlt
      obtain ⟨c1, c2, c3⟩ := HT.out k x hx
      rw [hd] at hr
      have l1 := cell_lt c1
      by_cases he : x.glyph = g
      · have hq := bytes_beq_yes he
        have Z : Hid (x.cls = gClass g) := Lib.hid (by rw [← hr]; simp [classIn, he])
        clear hr hd hx he
        go_wp2_with fail
        go_ret
        exact ⟨by rw [← Z.out]; rfl, B.out⟩
      · have hq := bytes_beq_no he
        have Z : Hid (classIn g (glyphs.drop (k + 1)) = gClass g) := Lib.hid (by rw [← hr]; simp [classIn, he])
        clear hr hd hx he
        go_wp2_with fail
        go_round
        case rel => exact ⟨k + 1, by omega, by go_num, Z.out⟩
        case measure => simp [intOf]; omega
    · obtain rfl : k = 38 := by omega
      have Z : Hid (0 = gClass g) := Lib.hid (by rw [← hr, List.drop_of_length_le (by rw [glyphs_len]; exact Nat.le_refl _)]; rfl)
      clear hr
      go_wp2_with fail
      go_ret
      exact ⟨by rw [← Z.out]; rfl, B.out⟩
theorem empty_is {u : ByteArray} (h : u = ByteArray.empty) : u.toList.isEmpty = true := by
  subst h
  decide +kernel
theorem empty_not {u : ByteArray} (h : u ≠ ByteArray.empty) : u.toList.isEmpty = false := by
  cases hl : u.toList with
  | cons y l => rfl
  | nil =>
    exfalso
    apply h
    obtain ⟨⟨l⟩⟩ := u
    rw [ByteArray.toList_eq] at hl
    simp at hl
    subst hl
    rfl
set_option maxRecDepth 100000 in
set_option maxHeartbeats 4000000 in
theorem gfirst_any (s : ByteArray) (w : World) (hs : s.size ≤ maxLen) :
    Calls Tryz.prog 90 #[.string s] w fun r w' => r = .returned (.tuple #[.string (gFirst s).1, .int .i64 (gFirst s).2]) ∧ Below w.heap.size w w' := by
  have T := Lib.hid table_any
  have BG := Lib.hid (fun t u ht => begins_any s t u hs ht)
  go_enter Tryz.func90, Tryz.ntmps90
  go_wp2_with fail
  refine (T.out _).mono ?_
  rintro r w1 ⟨rfl, hT, hb⟩
  have HT := Lib.hid hT
  have B := Lib.hid hb
  clear hT hb T
  go_wp2_with fail
  go_loop [5] (fun i => ∃ k : Nat, k ≤ 38 ∧ i = .int .i64 k ∧ firstIn s (glyphs.drop k) = gFirst s) (fun i => 38 - (intOf i).toNat)
  case atStart => exact ⟨0, by omega, rfl, rfl⟩
  case round =>
    obtain ⟨k, hk, rfl, hr⟩ := hrel
    by_cases hlt : k < 38
    · obtain ⟨x, hx, hd⟩ := glyphs_at hlt
      obtain ⟨z1, z2⟩ := glyphs_size hx
      obtain ⟨c1, c2, c3⟩ := HT.out k x hx
      rw [hd] at hr
      have l1 := cell_lt c1
      have B1 := Lib.hid (BG.out x.glyph w1 (by unfold maxLen; omega))
      have hts : (tick x.letter).size ≤ maxLen := by
        have h1 : (⟨#[96]⟩ : ByteArray).size = 1 := rfl
        unfold tick
        rw [ByteArray.size_append, h1]
        unfold maxLen
        omega
      have B2 := Lib.hid (BG.out (tick x.letter) w1 hts)
      clear hts
      unfold tick at B2
      clear BG hd hx
      cases h1 : begins s x.glyph with
      | true =>
        have Z : Hid ((x.glyph, x.glyph.size) = gFirst s) := Lib.hid (by rw [← hr]; simp [firstIn, h1])
        rw [h1] at B1
        clear hr h1 B2
        go_wp2_with fail
        refine B1.out.mono ?_
        rintro r w' ⟨rfl, rfl⟩
        go_wp2_with fail
        go_quiet (fail)
        go_wp2_with fail
        go_ret2
        exact ⟨by rw [← Z.out]; rfl, below_drewN B.out _⟩
      | false =>
        rw [h1] at B1
        by_cases h2 : x.letter = ByteArray.empty
        · have Z : Hid (firstIn s (glyphs.drop (k + 1)) = gFirst s) := Lib.hid (by rw [← hr]; simp [firstIn, h1, h2])
          have q := empty_is h2
          clear hr h1 h2 B2
          go_wp2_with fail
          refine B1.out.mono ?_
          rintro r w' ⟨rfl, rfl⟩
          go_wp2_with fail
          go_round
          case rel => exact ⟨k + 1, by omega, by go_num, Z.out⟩
          case measure => simp [intOf]; omega
        · have q := empty_not h2
          cases h3 : begins s (⟨#[96]⟩ ++ x.letter) with
          | true =>
            have Z : Hid ((x.glyph, 2) = gFirst s) := Lib.hid (by rw [← hr]; simp [firstIn, h1, h2, tick, h3])
            rw [h3] at B2
            clear hr h1 h2 h3
            go_wp2_with fail
            refine B1.out.mono ?_
            rintro r w' ⟨rfl, rfl⟩
            go_wp2_with fail
            refine B2.out.mono ?_
            rintro r w' ⟨rfl, rfl⟩
            go_wp2_with fail
            go_ret2
            exact ⟨by rw [← Z.out]; rfl, B.out⟩
          | false =>
            have Z : Hid (firstIn s (glyphs.drop (k + 1)) = gFirst s) := Lib.hid (by rw [← hr]; simp [firstIn, h1, h2, tick, h3])
            rw [h3] at B2
            clear hr h1 h2 h3
            go_wp2_with fail
            refine B1.out.mono ?_
            rintro r w' ⟨rfl, rfl⟩
            go_wp2_with fail
            refine B2.out.mono ?_
            rintro r w' ⟨rfl, rfl⟩
            go_wp2_with fail
            go_round
            case rel => exact ⟨k + 1, by omega, by go_num, Z.out⟩
            case measure => simp [intOf]; omega
    · obtain rfl : k = 38 := by omega
      have Z : Hid ((ByteArray.empty, 0) = gFirst s) := Lib.hid (by rw [← hr, List.drop_of_length_le (by rw [glyphs_len]; exact Nat.le_refl _)]; rfl)
      clear hr
      go_wp2_with fail
      go_ret2
      exact ⟨by rw [← Z.out]; rfl, B.out⟩
end Go.Proofs.YtebejlnegalokaaGreatDoor.Lz.Rf
/-
  XRfB, turned: what this seat needs of it.
-/
namespace Go.Proofs.YtebejlnegalokaaGreatDoor.Lz.Rf
open Go.RowKit
/-- A rune's lead: how many bytes, its bits. -/
def lead (b : Nat) : Nat := if 194 ≤ b ∧ b < 224 then 2 else if 224 ≤ b ∧ b < 240 then 3 else if 240 ≤ b ∧ b < 245 then 4 else 1
def bits (b : Nat) : Int := if 194 ≤ b ∧ b < 224 then (b : Int) - 192 else if 224 ≤ b ∧ b < 240 then (b : Int) - 224 else if 240 ≤ b ∧ b < 245 then (b : Int) - 240 else b
def leastOf (b : Nat) : Int := if 194 ≤ b ∧ b < 224 then 128 else if 224 ≤ b ∧ b < 240 then 2048 else if 240 ≤ b ∧ b < 245 then 65536 else 0
/-- The k-th byte. -/
def byteN (s : ByteArray) (k : Nat) : Nat := (s.get! k).toNat
def goes (s : ByteArray) (k : Nat) : Bool := decide (128 ≤ byteN s k) && decide (byteN s k ≤ 191)
def valN (s : ByteArray) : Nat → Int
  | 0 => 0
  | 1 => bits (byteN s 0)
  | k + 2 => 64 * valN s (k + 1) + byteN s (k + 1) - 128
def badN (s : ByteArray) (n : Nat) : Bool := decide (1 < n) && (decide (valN s n < leastOf (byteN s 0)) || (decide (valN s n > 1114111) || (decide (55296 ≤ valN s n) && decide (valN s n ≤ 57343))))
theorem byteN_lt (s : ByteArray) (k : Nat) : byteN s k < 256 := (s.get! k).toNat_lt
def okR (c : Nat) : Bool := decide (c < 55296) || (decide (57344 ≤ c) && decide (c ≤ 1114111))
theorem valid_nat (c : Nat) : Utf8.valid (c : Int) = okR c := by
  unfold Utf8.valid okR
  rw [Bool.eq_iff_iff]
  simp only [Bool.or_eq_true, Bool.and_eq_true, decide_eq_true_eq]
  omega
/-- What decoding says, in numbers. -/
def decN (n a0 a1 a2 a3 : Nat) : Nat :=
  if a0 < 128 then 1 else
  if a0 / 32 = 6 ∧ 1 < n ∧ a1 / 64 = 2 then (if 128 ≤ a0 % 32 * 64 + a1 % 64 then 2 else 1) else
  if a0 / 16 = 14 ∧ (1 < n ∧ a1 / 64 = 2) ∧ (2 < n ∧ a2 / 64 = 2) then (if 2048 ≤ a0 % 16 * 4096 + a1 % 64 * 64 + a2 % 64 ∧ okR (a0 % 16 * 4096 + a1 % 64 * 64 + a2 % 64) = true then 3 else 1) else
  if a0 / 8 = 30 ∧ (1 < n ∧ a1 / 64 = 2) ∧ (2 < n ∧ a2 / 64 = 2) ∧ (3 < n ∧ a3 / 64 = 2) then (if 65536 ≤ a0 % 8 * 262144 + a1 % 64 * 4096 + a2 % 64 * 64 + a3 % 64 ∧ okR (a0 % 8 * 262144 + a1 % 64 * 4096 + a2 % 64 * 64 + a3 % 64) = true then 4 else 1) else 1
theorem dStep_dec (s : ByteArray) : dStep s = decN s.size (byteN s 0) (byteN s 1) (byteN s 2) (byteN s 3) := by
  unfold dStep Utf8.decode decN byteN
  simp only [Nat.zero_add, Bool.and_eq_true, decide_eq_true_eq, beq_iff_eq, valid_nat, ge_iff_le, and_assoc]
  repeat' split
  all_goals first | rfl | (exfalso; simp_all; done) | (simp_all; done) | omega
theorem lead_two {s : ByteArray} (P : Nat → Prop) : (∃ k, 1 ≤ k ∧ k < 2 ∧ P k) ↔ P 1 := ⟨fun ⟨k, h1, h2, h3⟩ => by
    obtain rfl : k = 1 := by omega
    exact h3, fun h => ⟨1, by omega, by omega, h⟩⟩
theorem lead_three {s : ByteArray} (P : Nat → Prop) : (∃ k, 1 ≤ k ∧ k < 3 ∧ P k) ↔ P 1 ∨ P 2 :=
  ⟨fun ⟨k, h1, h2, h3⟩ => by
    rcases (show k = 1 ∨ k = 2 by omega) with rfl | rfl
    · exact .inl h3
    · exact .inr h3, fun h => by
    rcases h with h | h
    · exact ⟨1, by omega, by omega, h⟩
    · exact ⟨2, by omega, by omega, h⟩⟩
theorem lead_four {s : ByteArray} (P : Nat → Prop) : (∃ k, 1 ≤ k ∧ k < 4 ∧ P k) ↔ P 1 ∨ P 2 ∨ P 3 :=
  ⟨fun ⟨k, h1, h2, h3⟩ => by
    rcases (show k = 1 ∨ k = 2 ∨ k = 3 by omega) with rfl | rfl | rfl
    · exact .inl h3
    · exact .inr (.inl h3)
    · exact .inr (.inr h3), fun h => by
    rcases h with h | h | h
    · exact ⟨1, by omega, by omega, h⟩
    · exact ⟨2, by omega, by omega, h⟩
    · exact ⟨3, by omega, by omega, h⟩⟩
theorem goes_no (s : ByteArray) (k : Nat) : goes s k = false ↔ ¬ (128 ≤ byteN s k ∧ byteN s k ≤ 191) := by
  unfold goes
  rw [Bool.and_eq_false_iff, decide_eq_false_iff_not, decide_eq_false_iff_not]
  omega
open Classical in
set_option maxHeartbeats 4000000 in
theorem decode_is (s : ByteArray) (h : 0 < s.size) : dStep s = if s.size < lead (byteN s 0) ∨ (∃ k, 1 ≤ k ∧ k < lead (byteN s 0) ∧ goes s k = false) ∨ badN s (lead (byteN s 0)) = true then 1 else lead (byteN s 0) := by
  rw [dStep_dec]
  have h0 := byteN_lt s 0
  have h1 := byteN_lt s 1
  have h2 := byteN_lt s 2
  have h3 := byteN_lt s 3
  by_cases c2 : 194 ≤ byteN s 0 ∧ byteN s 0 < 224
  · have hl : lead (byteN s 0) = 2 := by unfold lead; rw [if_pos c2]
    have hv : valN s 2 = 64 * ((byteN s 0 : Int) - 192) + byteN s 1 - 128 := by simp only [valN, bits, if_pos c2]
    have hm : leastOf (byteN s 0) = 128 := by unfold leastOf; rw [if_pos c2]
    rw [hl, lead_two (s := s) (fun k => goes s k = false), goes_no]
    unfold badN decN
    rw [hv, hm]
    simp only [Bool.and_eq_true, Bool.or_eq_true, decide_eq_true_eq]
    generalize byteN s 0 = a0 at *
    generalize byteN s 1 = a1 at *
    repeat' split
    all_goals omega
  · by_cases c3 : 224 ≤ byteN s 0 ∧ byteN s 0 < 240
    · have hl : lead (byteN s 0) = 3 := by unfold lead; rw [if_neg c2, if_pos c3]
      have hv : valN s 3 = 64 * (64 * ((byteN s 0 : Int) - 224) + byteN s 1 - 128) + byteN s 2 - 128 := by simp only [valN, bits, if_neg c2, if_pos c3]
      have hm : leastOf (byteN s 0) = 2048 := by unfold leastOf; rw [if_neg c2, if_pos c3]
      rw [hl, lead_three (s := s) (fun k => goes s k = false), goes_no, goes_no]
      unfold badN decN okR
      rw [hv, hm]
      simp only [Bool.and_eq_true, Bool.or_eq_true, decide_eq_true_eq]
      generalize byteN s 0 = a0 at *
      generalize byteN s 1 = a1 at *
      generalize byteN s 2 = a2 at *
      repeat' split
      all_goals omega
    · by_cases c4 : 240 ≤ byteN s 0 ∧ byteN s 0 < 245
      · have hl : lead (byteN s 0) = 4 := by unfold lead; rw [if_neg c2, if_neg c3, if_pos c4]
        have hv : valN s 4 = 64 * (64 * (64 * ((byteN s 0 : Int) - 240) + byteN s 1 - 128) + byteN s 2 - 128) + byteN s 3 - 128 := by simp only [valN, bits, if_neg c2, if_neg c3, if_pos c4]
        have hm : leastOf (byteN s 0) = 65536 := by unfold leastOf; rw [if_neg c2, if_neg c3, if_pos c4]
        rw [hl, lead_four (s := s) (fun k => goes s k = false), goes_no, goes_no, goes_no]
        unfold badN decN okR
        rw [hv, hm]
        simp only [Bool.and_eq_true, Bool.or_eq_true, decide_eq_true_eq]
        generalize byteN s 0 = a0 at *
        generalize byteN s 1 = a1 at *
        generalize byteN s 2 = a2 at *
        generalize byteN s 3 = a3 at *
        repeat' split
        all_goals omega
      · have hl : lead (byteN s 0) = 1 := by unfold lead; rw [if_neg c2, if_neg c3, if_neg c4]
        rw [hl]
        have e : (if s.size < 1 ∨ (∃ k, 1 ≤ k ∧ k < 1 ∧ goes s k = false) ∨ badN s 1 = true then 1 else 1) = 1 := by split <;> rfl
        rw [e]
        unfold decN okR
        simp only [Bool.and_eq_true, Bool.or_eq_true, decide_eq_true_eq]
        generalize byteN s 0 = a0 at *
        generalize byteN s 1 = a1 at *
        generalize byteN s 2 = a2 at *
        generalize byteN s 3 = a3 at *
        repeat' split
        all_goals omega
end Go.Proofs.YtebejlnegalokaaGreatDoor.Lz.Rf
