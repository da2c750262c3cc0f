/-
  Which numbers a failure has; variables that hold values.
-/
import Derived.Test.YtamclieppbnpiabGreatDoorProg
import Derived.Test.YtamclieppbnpiabGreatDoorReg
import Derived.WalkKit
import Derived.WalkSpells
import Derived.WalkLawsBesides
import Derived.Lib.Hide
import Derived.Lib.MinMax
import Derived.Deep.QuietTactic
import Derived.BigQuiet
import Derived.OwnWalk
import Derived.Deep.AppendLies
import Derived.KernelRfl
import Derived.Test.YtamclieppbnpiabGreatDoorJw28
import Derived.Test.YtamclieppbnpiabGreatDoorJw27
set_option linter.unusedSimpArgs false
set_option linter.unusedVariables false
namespace Go.Proofs.YtamclieppbnpiabGreatDoor
open Go Go.RowKit Go.Maps

/-- What a failure may be. -/
def codeJ (c : Int) : Prop := c = 150 ∨ c = 151 ∨ c = 152
theorem codeJ.ne {c : Int} (h : codeJ c) : c ≠ 0 := by unfold codeJ at h; omega
theorem second_code {n : Nat} {l : List UInt8} {c : Int} (h : secondL n l = .error c) : codeJ c := by
  unfold secondL at h
  split at h
  · cases h; exact .inr (.inr rfl)
  · split at h
    · cases h; exact .inr (.inr rfl)
    · split at h
      · cases h
      · cases h; exact .inr (.inr rfl)
theorem escape_code {l : List UInt8} {c : Int} (h : escapeL l = .error c) : codeJ c := by
  unfold escapeL at h
  split at h
  · cases h; exact .inl rfl
  · split at h
    · cases h
    · split at h
      · cases h; exact .inl rfl
      · split at h
        · cases h; exact .inl rfl
        · split at h
          · cases h
          · split at h
            · cases h; exact .inr (.inr rfl)
            · exact second_code h
theorem wordGo_code : ∀ (k : Nat) (acc l : List UInt8) (c : Int), wordGo k acc l = .error c → codeJ c
  | 0, acc, l, c, h => by cases h; exact .inl rfl
  | k + 1, acc, [], c, h => by cases h; exact .inl rfl
  | k + 1, acc, x :: r, c, h => by
    simp only [wordGo] at h
    split at h
    · cases h; exact .inl rfl
    · split at h
      · cases h
      · split at h
        · split at h
          · rename_i he
            cases h
            exact escape_code he
          · exact wordGo_code k _ _ c h
        · exact wordGo_code k _ _ c h
theorem word_code {l : List UInt8} {c : Int} (h : wordL l = .error c) : codeJ c := wordGo_code _ _ _ c h
theorem digit_code {l : List UInt8} {c : Int} (h : digitL l = .error c) : codeJ c := by
  unfold digitL at h
  split at h
  · split at h
    · cases h; exact .inl rfl
    · cases h
  · cases h; exact .inl rfl
theorem key_code {keys : List ByteArray} {l : List UInt8} {c : Int} (h : keyL keys l = .error c) : codeJ c := by
  unfold keyL at h
  split at h
  · cases h; exact .inl rfl
  · split at h
    · rename_i he
      cases h
      exact word_code he
    · split at h
      · cases h; exact .inl rfl
      · split at h
        · cases h; exact .inl rfl
        · cases h
theorem then_code {obj : Bool} {l : List UInt8} {c : Int} (h : thenL obj l = .error c) : codeJ c := by
  unfold thenL at h
  split at h
  · cases h; exact .inl rfl
  · split at h
    · cases h
    · split at h
      · cases h
      · cases h; exact .inl rfl
theorem ent_code {obj : Bool} {keys : List ByteArray} {l : List UInt8} {c : Int} (h : entJ obj keys l = .error c) : codeJ c := by
  unfold entJ at h
  split at h
  · split at h
    · rename_i he
      cases h
      exact key_code he
    · cases h
  · cases h
theorem itemsGo_code {val : List UInt8 → Got} (H : ∀ l c, val l = .error c → codeJ c) (obj : Bool) : ∀ (m : Nat) (keys : List ByteArray) (acc : List Js) (l : List UInt8) (c : Int), itemsGo val obj m keys acc l = .error c → codeJ c
  | 0, keys, acc, l, c, h => by cases h; exact .inl rfl
  | m + 1, keys, acc, l, c, h => by
    rw [itemsGo_succ] at h
    split at h
    · rename_i he
      cases h
      exact ent_code he
    · split at h
      · rename_i he
        cases h
        exact H _ _ he
      · split at h
        · rename_i he
          cases h
          exact then_code he
        · cases h
        · exact itemsGo_code H obj m _ _ _ c h
theorem itemsL_code {val : List UInt8 → Got} (H : ∀ l c, val l = .error c → codeJ c) (obj : Bool) {l : List UInt8} {c : Int} (h : itemsL val obj l = .error c) : codeJ c := by
  unfold itemsL at h
  split at h
  · cases h
  · exact itemsGo_code H obj _ _ _ _ c h
theorem plain_code {l : List UInt8} {c : Int} (h : plainL l = .error c) : codeJ c := by
  unfold plainL at h
  split at h
  · cases h
  · split at h
    · cases h
    · split at h
      · cases h
      · split at h
        · rename_i he
          cases h
          exact digit_code he
        · cases h
theorem value_code : ∀ (d : Nat) (l : List UInt8) (c : Int), valueL d l = .error c → codeJ c := by
  intro d
  induction d with
  | zero =>
    intro l c h
    rw [valueL.eq_def] at h
    split at h
    · exact plain_code h
    · split at h
      · split at h
        · rename_i he
          cases h
          exact word_code he
        · cases h
      · split at h
        · cases h; exact .inr (.inl rfl)
        · exact plain_code h
  | succ e ih =>
    intro l c h
    rw [valueL.eq_def] at h
    split at h
    · exact plain_code h
    · split at h
      · split at h
        · rename_i he
          cases h
          exact word_code he
        · cases h
      · split at h
        · exact itemsL_code ih _ h
        · exact plain_code h
theorem parse_code {l : List UInt8} {c : Int} (h : parseL l = .error c) : codeJ c := by
  rw [parse_of] at h
  split at h
  · rename_i he
    cases h
    exact value_code _ _ _ he
  · split at h
    · cases h
    · cases h; exact .inl rfl

/-! ### Variables -/
/-- Block b is a variable that holds x. -/
structure VarAt (w : World) (b : Nat) (x : Js) (A : Option Addr) (c : Nat) (B : Option Addr) (d : Nat) : Prop where
  row : w.heap[b]? = some (.cells #[.int .i64 x.kind, .bool x.yes, .int .i64 x.n, .string x.s, .slice A x.keys.length c, .slice B x.l.length d] tJ (0, 0))
  jc : JC w x [.int .i64 x.kind, .bool x.yes, .int .i64 x.n, .string x.s, .slice A x.keys.length c, .slice B x.l.length d]
theorem VarAt.keep {w w' : World} {b : Nat} {x : Js} {A : Option Addr} {c : Nat} {B : Option Addr} {d : Nat} (h : VarAt w b x A c B d) (hb : Below w.heap.size w w') : VarAt w' b x A c B d :=
  ⟨(hb.block b (Array.getElem?_eq_some_iff.1 h.row).1).trans h.row, h.jc.keep hb⟩
theorem VarAt.new {w : World} {x : Js} {A : Option Addr} {c : Nat} {B : Option Addr} {d : Nat} (h : JC w x [.int .i64 x.kind, .bool x.yes, .int .i64 x.n, .string x.s, .slice A x.keys.length c, .slice B x.l.length d]) :
    VarAt (w.alloc (.cells #[.int .i64 x.kind, .bool x.yes, .int .i64 x.n, .string x.s, .slice A x.keys.length c, .slice B x.l.length d] tJ)) w.heap.size x A c B d :=
  ⟨heap_alloc_new w _, h.keep (below_new w _)⟩
theorem VarAt.lt {w : World} {b : Nat} {x : Js} {A : Option Addr} {c : Nat} {B : Option Addr} {d : Nat} (h : VarAt w b x A c B d) : b < w.heap.size := (Array.getElem?_eq_some_iff.1 h.row).1
/-- A variable gets a value just made. -/
theorem few_store {w w1 : World} {b m : Nat} {F : Js} {a0 a1 a2 a3 a4 a5 : Value} {A : Option Addr} {c : Nat} {B : Option Addr} {d : Nat} (hB : Below w.heap.size w w1) (hrow : w1.heap[b]? = some (.cells #[a0, a1, a2, a3, a4, a5] tJ (0, 0))) (hb : w.heap.size ≤ b)
    (hJ : JD (fun k => m ≤ k ∧ k < w1.heap.size) w1 F [.int .i64 F.kind, .bool F.yes, .int .i64 F.n, .string F.s, .slice A F.keys.length c, .slice B F.l.length d]) (hbm : b < m) (W : World)
    (hW : W = ((((((w1.setCell ⟨b, 0, none⟩ (.int .i64 F.kind)).setCell ⟨b, 1, none⟩ (.bool F.yes)).setCell ⟨b, 2, none⟩ (.int .i64 F.n)).setCell ⟨b, 3, none⟩ (.string F.s)).setCell ⟨b, 4, none⟩ (.slice A F.keys.length c)).setCell ⟨b, 5, none⟩ (.slice B F.l.length d))) :
    Below w.heap.size w W ∧ VarAt W b F A c B d ∧ W.heap.size = w1.heap.size ∧ ∀ k, k ≠ b → W.heap[k]? = w1.heap[k]? := by
  have hs : W.heap.size = w1.heap.size := by rw [hW]; exact set6_size _ _ _ _ _ _
  have ho : ∀ k, k ≠ b → W.heap[k]? = w1.heap[k]? := fun k hk => by rw [hW]; exact set6_other hk _ _ _ _ _ _
  exact ⟨by rw [hW]; exact below6 hB hb _ _ _ _ _ _, ⟨by rw [hW]; exact set6 hrow, hJ W (fun k hk => ho k (by have := hk.1; omega))⟩, hs, ho⟩
theorem few4_any (x : Js) (ho : okJ maxLen x) (cs : List Value) (w : World) (h : JC w x cs) : Calls Tryz.prog 6 #[.agg cs.toArray, .int .i64 4] w fun e w' => Fresh (fewJ 4 x) w.heap.size e w' ∧ Below w.heap.size w w' :=
  few_any 4 (by omega) x cs w ho h
end Go.Proofs.YtamclieppbnpiabGreatDoor
