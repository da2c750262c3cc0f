/-
  A map from bytes that a call has made, told by what it holds at each number. No program here.
-/
import Derived.Test.YtamclieppbnpiabGreatDoorMap
import Derived.Test.YtamclieppbnpiabGreatDoorReg
import Derived.WalkKit
import Derived.Lib.ValidLaws
import Derived.Lib.MapLaws
import Derived.Lib.ParseIntB
import Derived.Lib.ItoaNum
set_option linter.unusedSimpArgs false
set_option linter.unusedVariables false
namespace Go.Proofs.YtamclieppbnpiabGreatDoor
open Go.RowKit Go.Maps

/-- Block b of w is a map from bytes of at most n entries; at each number it holds what 'look' says. -/
def MapIsU (w : World) (P : Program) (k : TypeId) (b n : Nat) (look : Int → Option Value) : Prop :=
  ∃ D : DataW Value, w.ownsMap P k asItself b n D ∧ IsMap D ∧ ∀ (g : Int) (z : DataW Value), (Lit.int .u8 g).wf = true → D.atKey (.int .u8 g) z = ((look g).map DataW.held).getD z

section
variable {P : Program} {k : TypeId} {w : World} {b n : Nat} {look : Int → Option Value}

theorem MapIsU.made (w : World) (P : Program) (k : TypeId) : MapIsU (w.alloc (.map #[] 0)) P k w.heap.size 0 (fun _ => none) :=
  ⟨.map [], World.ownsMap_made w P k asItself, isMap_empty, fun _ _ _ => rfl⟩

theorem MapIsU.kept {w' : World} {row : Option Nat} (h : MapIsU w P k b n look) (hg : w.grownBy w' row) (hne : some b ≠ row) : MapIsU w' P k b n look := by
  obtain ⟨D, h1, h2⟩ := h
  exact ⟨D, h1.kept hg hne, h2⟩

theorem MapIsU.below {w' : World} (h : MapIsU w P k b n look) (hb : Below w.heap.size w w') : MapIsU w' P k b n look := by
  obtain ⟨D, ⟨es, c, h1, h3⟩, h2⟩ := h
  have hlt : b < w.heap.size := by
    rcases Nat.lt_or_ge b w.heap.size with h | h
    · exact h
    · simp [Array.getElem?_eq_none h] at h1
  exact ⟨D, ⟨es, c, (hb.block b hlt).trans h1, h3⟩, h2⟩

theorem MapIsU.put {t e : TypeId} (h : MapIsU w P k b n look) (hk : P.underlying k = some (.int .u8)) (ht : P.underlying t = some (.map k e)) (hn : n < maxLen) (g : Int) (hg : (Lit.int .u8 g).wf = true) (v : Value) :
    ∃ w', (Instr.mapUpdate t (.map (some b)) (.int .u8 g) v).run P w = .ok () w' ∧ MapIsU w' P k b (n + 1) (fun x => if x = g then some v else look x) ∧ w.grownBy w' (some b) := by
  obtain ⟨D, h1, h2, h3⟩ := h
  obtain ⟨w', hrun, hown, hgr⟩ := h1.update (int_keyed hk) ht hn (keyOf_int_mk hk hg) (show asItself v = some (.held v, []) from rfl)
  refine ⟨w', hrun, ⟨_, hown, h2.put _ _, fun x z hx2 => ?_⟩, hgr⟩
  by_cases hx : x = g
  · subst hx
    rw [atKey_put_same h2 (show WideAt.IsKeyLit (.int .u8 x) from trivial)]
    simp
  · rw [atKey_put_other (by simpa using hx), h3 x z hx2]
    simp [hx]

theorem MapIsU.get {t e : TypeId} (c : Bool) (h : MapIsU w P k b n look) (hk : P.underlying k = some (.int .u8)) (ht : P.underlying t = some (.map k e)) {z : Value} (hz : (zeroValue e).run P w = .ok z w) (g : Int) (hg : (Lit.int .u8 g).wf = true) :
    (Instr.lookup t (.map (some b)) (.int .u8 g) c).run P w = .ok (if c then .tuple #[(look g).getD z, .bool (look g).isSome] else (look g).getD z) w := by
  obtain ⟨D, ⟨es, clock, hb, F, _, rfl⟩, h2, h3⟩ := h
  rcases fit_look c (int_keyed hk) ht hz hb F (keyOf_int_mk hk hg) with ⟨hrun, _, hat⟩ | ⟨e0, y, _, _, hrun, hRv, hat, _⟩
  · have e1 := (h3 g .nil hg).symm.trans (hat .nil)
    cases hl : look g with
    | none => simpa using hrun
    | some v => rw [hl] at e1; simp at e1
  · have e1 := (h3 g .nil hg).symm.trans (hat .nil)
    have e2 : y.1 = .held e0.val := by
      have := Option.some.inj hRv
      rw [← this]
    rw [e2] at e1
    cases hl : look g with
    | none => rw [hl] at e1; simp at e1
    | some v =>
      rw [hl] at e1
      simp at e1
      subst e1
      simpa using hrun
end
end Go.Proofs.YtamclieppbnpiabGreatDoor
/-
  Values, their texts, and the reading of a text, plainly. No program here.
-/
namespace Go.Proofs.YtamclieppbnpiabGreatDoor
open Go.RowKit

/-- A value. -/
inductive Js where
  | mk (kind : Int) (yes : Bool) (n : Int) (s : ByteArray) (keys : List ByteArray) (l : List Js)
def Js.kind : Js → Int | .mk k _ _ _ _ _ => k
def Js.yes : Js → Bool | .mk _ y _ _ _ _ => y
def Js.n : Js → Int | .mk _ _ n _ _ _ => n
def Js.s : Js → ByteArray | .mk _ _ _ s _ _ => s
def Js.keys : Js → List ByteArray | .mk _ _ _ _ k _ => k
def Js.l : Js → List Js | .mk _ _ _ _ _ l => l
def noJs : Js := .mk 0 false 0 ByteArray.empty [] []
theorem Js.lt_of_mem {v x : Js} (h : x ∈ v.l) : SizeOf.sizeOf x < SizeOf.sizeOf v := by
  obtain ⟨k, y, n, s, ks, l⟩ := v
  have := List.sizeOf_lt_of_mem h
  simp only [Js.l] at this
  simp only [Js.mk.sizeOf_spec]
  omega
/-- What holds of a value if it holds of its items holds of all. -/
theorem Js.ind {P : Js → Prop} (h : ∀ v, (∀ x ∈ v.l, P x) → P v) (v : Js) : P v :=
  h v (fun x hx => Js.ind h x)
termination_by SizeOf.sizeOf v
decreasing_by exact Js.lt_of_mem hx

/-! ### Right values -/
def validB (s : ByteArray) : Bool := Lib.validD s.data.toList
def inB (k : ByteArray) : List ByteArray → Bool
  | [] => false
  | x :: l => decide (x = k) || inB k l
def keysGo : List ByteArray → List ByteArray → Bool
  | _, [] => true
  | pre, k :: l => validB k && (!inB k pre && keysGo (pre ++ [k]) l)
def keysOk (l : List ByteArray) : Bool := keysGo [] l
/-- Is it right, but for its items? -/
def ownJ (d : Nat) (v : Js) : Bool :=
  if v.kind = 0 then decide (v.l.length = 0) && decide (v.keys.length = 0) && (!v.yes && decide (v.n = 0) && decide (v.s = ByteArray.empty))
  else if v.kind = 1 then decide (v.l.length = 0) && decide (v.keys.length = 0) && decide (v.n = 0) && decide (v.s = ByteArray.empty)
  else if v.kind = 2 then decide (v.l.length = 0) && decide (v.keys.length = 0) && !v.yes && decide (v.s = ByteArray.empty)
  else if v.kind = 3 then decide (v.l.length = 0) && decide (v.keys.length = 0) && !v.yes && decide (v.n = 0) && validB v.s
  else if v.kind = 4 then (!v.yes && decide (v.n = 0) && decide (v.s = ByteArray.empty)) && decide (v.keys.length = 0) && decide (0 < d)
  else if v.kind = 5 then (!v.yes && decide (v.n = 0) && decide (v.s = ByteArray.empty)) && decide (v.keys.length = v.l.length) && keysOk v.keys && decide (0 < d)
  else false
def rightJ : Nat → Js → Bool
  | 0, v => ownJ 0 v
  | d + 1, v => ownJ (d + 1) v && v.l.all (rightJ d)
theorem own_zero {v : Js} (h : ownJ 0 v = true) : v.l = [] := by
  unfold ownJ at h
  by_cases c0 : v.kind = 0
  · simp [c0] at h; exact h.1.1
  · by_cases c1 : v.kind = 1
    · simp [c1] at h; exact h.1.1.1
    · by_cases c2 : v.kind = 2
      · simp [c2] at h; exact h.1.1.1
      · by_cases c3 : v.kind = 3
        · simp [c3] at h; exact h.1.1.1.1
        · by_cases c4 : v.kind = 4
          · simp [c4] at h
          · by_cases c5 : v.kind = 5
            · simp [c5] at h
            · simp [c0, c1, c2, c3, c4, c5] at h

/-! ### A key's item -/
def getGo (key : ByteArray) : List ByteArray → List Js → Option Js
  | k :: ks, x :: l => if k = key then some x else getGo key ks l
  | _, _ => none
def getJ (v : Js) (key : ByteArray) : Option Js := if v.kind = 5 then getGo key v.keys v.l else none

/-! ### Texts -/
def hexd (n : Nat) : UInt8 := if n < 10 then UInt8.ofNat (48 + n) else UInt8.ofNat (87 + n)
def escB (c : UInt8) : List UInt8 := if c.toNat < 32 then [92, 117, 48, 48, hexd (c.toNat / 16), hexd (c.toNat % 16)] else if c = 34 ∨ c = 92 then [92, c] else [c]
def quoteL (l : List UInt8) : List UInt8 := 34 :: (l.flatMap escB ++ [34])
def sepL : List (List UInt8) → List UInt8
  | [] => []
  | [x] => x
  | x :: y :: l => x ++ 44 :: sepL (y :: l)
def pairL : List ByteArray → List (List UInt8) → List (List UInt8)
  | k :: ks, x :: l => (quoteL k.data.toList ++ 58 :: x) :: pairL ks l
  | _, _ => []
mutual
def jtext : Js → List UInt8
  | .mk kind yes n s keys l =>
    if kind = 1 then (if yes then [116, 114, 117, 101] else [102, 97, 108, 115, 101])
    else if kind = 2 then Lib.itoa n
    else if kind = 3 then quoteL s.data.toList
    else if kind = 4 then 91 :: (sepL (jtexts l) ++ [93])
    else if kind = 5 then 123 :: (sepL (pairL keys (jtexts l)) ++ [125])
    else [110, 117, 108, 108]
def jtexts : List Js → List (List UInt8)
  | [] => []
  | x :: l => jtext x :: jtexts l
end
theorem jtexts_map (l : List Js) : jtexts l = l.map jtext := by
  induction l with
  | nil => rfl
  | cons x l ih => rw [jtexts, ih]; rfl

/-! ### Reading -/
def bs (l : List UInt8) : ByteArray := ⟨l.toArray⟩
theorem bs_list (l : List UInt8) : (bs l).data.toList = l := by simp [bs]
theorem bs_of (s : ByteArray) : bs s.data.toList = s := by simp [bs]
theorem bs_size (l : List UInt8) : (bs l).size = l.length := by simp [bs, ByteArray.size]
theorem bs_inj {a b : List UInt8} (h : bs a = bs b) : a = b := by rw [← bs_list a, h, bs_list]
theorem bs_app (a b : List UInt8) : bs a ++ bs b = bs (a ++ b) := by
  have : (bs a ++ bs b).data.toList = (bs (a ++ b)).data.toList := by
    rw [ByteArray.data_append, Array.toList_append, bs_list, bs_list, bs_list]
  rw [← bs_of (bs a ++ bs b), this, bs_of]
theorem bs_ext (l : List UInt8) (a b : Nat) : (bs l).extract a b = bs ((l.drop a).take (b - a)) := by
  have : ((bs l).extract a b).data.toList = (l.drop a).take (b - a) := by
    rw [ByteArray.data_extract]
    simp [bs, List.extract_eq_take_drop]
  rw [← bs_of ((bs l).extract a b), this]
theorem bs_drop (l : List UInt8) (a : Nat) : (bs l).extract a l.length = bs (l.drop a) := by
  rw [bs_ext, List.take_of_length_le (by simp)]
theorem bs_take (l : List UInt8) (a : Nat) : (bs l).extract 0 a = bs (l.take a) := by rw [bs_ext]; simp

def isWs (c : UInt8) : Bool := c == 32 || c == 9 || c == 10 || c == 13
def skipL (l : List UInt8) : List UInt8 := l.dropWhile isWs
def takeP : List UInt8 → List UInt8 → Option (List UInt8)
  | [], l => some l
  | _ :: _, [] => none
  | p :: ps, c :: l => if p = c then takeP ps l else none
def hexN (c : UInt8) : Option Nat := if 48 ≤ c.toNat ∧ c.toNat ≤ 57 then some (c.toNat - 48) else if 97 ≤ c.toNat ∧ c.toNat ≤ 102 then some (c.toNat - 87) else if 65 ≤ c.toNat ∧ c.toNat ≤ 70 then some (c.toNat - 55) else none
def hexGo : Nat → Nat → List UInt8 → Option (Nat × List UInt8)
  | 0, n, l => some (n, l)
  | _ + 1, _, [] => none
  | k + 1, n, c :: l => match hexN c with
    | some d => hexGo k (16 * n + d) l
    | none => none
def hex4 (l : List UInt8) : Option (Nat × List UInt8) := hexGo 4 0 l
/-- What single letters stand for. -/
def simpleL (c : UInt8) : Option UInt8 := if c = 34 then some 34 else if c = 92 then some 92 else if c = 47 then some 47 else if c = 98 then some 8 else if c = 102 then some 12 else if c = 110 then some 10 else if c = 114 then some 13 else if c = 116 then some 9 else none
/-- Behind a first half. -/
def secondL (n : Nat) (l : List UInt8) : Except Int (List UInt8 × List UInt8) :=
  match takeP [92, 117] l with
  | none => .error 152
  | some r => match hex4 r with
    | none => .error 152
    | some (m, q) => if 56320 ≤ m ∧ m ≤ 57343 then .ok (Lib.encodeRune (((65536 + (n - 55296) * 1024 + m - 56320 : Nat) : Int)), q) else .error 152
def escapeL : List UInt8 → Except Int (List UInt8 × List UInt8)
  | [] => .error 150
  | c :: l => match simpleL c with
    | some x => .ok ([x], l)
    | none => if c ≠ 117 then .error 150 else match hex4 l with
      | none => .error 150
      | some (n, r) => if n < 55296 ∨ 57343 < n then .ok (Lib.encodeRune (n : Int), r) else if 56320 ≤ n then .error 152 else secondL n r
def wordGo : Nat → List UInt8 → List UInt8 → Except Int (List UInt8 × List UInt8)
  | 0, _, _ => .error 150
  | k + 1, acc, l => match l with
    | [] => .error 150
    | c :: r => if c.toNat < 32 ∨ (128 ≤ c.toNat ∧ (Lib.decodeL (c :: r)).2 = 1) then .error 150
      else if c = 34 then .ok (acc, r)
      else if c = 92 then (match escapeL r with
        | .error e => .error e
        | .ok (t, q) => wordGo k (acc ++ t) q)
      else wordGo k (acc ++ (c :: r).take (Lib.decodeL (c :: r)).2) ((c :: r).drop (Lib.decodeL (c :: r)).2)
/-- A text whose first sign was taken. -/
def wordL (l : List UInt8) : Except Int (List UInt8 × List UInt8) := wordGo (l.length + 1) [] l
def isDg (c : UInt8) : Bool := decide (48 ≤ c.toNat) && decide (c.toNat ≤ 57)
def signL (l : List UInt8) : List UInt8 := match l with | 45 :: _ => [45] | _ => []
def digitsL (l : List UInt8) : List UInt8 := (l.drop (signL l).length).takeWhile isDg
def allL (l : List UInt8) : List UInt8 := signL l ++ digitsL l
def digitL (l : List UInt8) : Except Int (Int × List UInt8) :=
  match Lib.parseIntB 64 (allL l) with
  | .ok x => if 1 < (digitsL l).length ∧ (digitsL l).head? = some 48 then .error 150 else .ok (x, l.drop (allL l).length)
  | _ => .error 150
abbrev Got := Except Int (Js × List UInt8)
def kindJ (obj : Bool) : Int := if obj then 5 else 4
def endJ (obj : Bool) : UInt8 := if obj then 125 else 93
def mkJ (obj : Bool) (keys : List ByteArray) (l : List Js) : Js := .mk (kindJ obj) false 0 ByteArray.empty keys l
/-- An object's next key, and the sign behind. -/
def keyL (keys : List ByteArray) (l : List UInt8) : Except Int (ByteArray × List UInt8) :=
  match takeP [34] l with
  | none => .error 150
  | some r => match wordL r with
    | .error e => .error e
    | .ok (k, q) => if inB (bs k) keys = true then .error 150 else match takeP [58] (skipL q) with
      | none => .error 150
      | some t => .ok (bs k, skipL t)
/-- What stands behind an item. -/
def thenL (obj : Bool) (l : List UInt8) : Except Int (Bool × List UInt8) :=
  match skipL l with
  | [] => .error 150
  | c :: r => if c = endJ obj then .ok (true, r) else if c = 44 then .ok (false, r) else .error 150
def itemsGo (val : List UInt8 → Got) (obj : Bool) : Nat → List ByteArray → List Js → List UInt8 → Got
  | 0, _, _, _ => .error 150
  | m + 1, keys, acc, l =>
    match (if obj then (match keyL keys (skipL l) with | .error e => .error e | .ok (k, r) => .ok (keys ++ [k], r)) else .ok (keys, skipL l) : Except Int (List ByteArray × List UInt8)) with
    | .error e => .error e
    | .ok (ks, r) => match val r with
      | .error e => .error e
      | .ok (x, q) => match thenL obj q with
        | .error e => .error e
        | .ok (true, t) => .ok (mkJ obj ks (acc ++ [x]), t)
        | .ok (false, t) => itemsGo val obj m ks (acc ++ [x]) t
/-- Behind the first sign of a list, or an object. -/
def itemsL (val : List UInt8 → Got) (obj : Bool) (l : List UInt8) : Got :=
  match takeP [endJ obj] (skipL l) with
  | some r => .ok (mkJ obj [] [], r)
  | none => itemsGo val obj (l.length + 1) [] [] (skipL l)
def numJ (n : Int) : Js := .mk 2 false n ByteArray.empty [] []
def textJ (s : List UInt8) : Js := .mk 3 false 0 (bs s) [] []
def boolJ (b : Bool) : Js := .mk 1 b 0 ByteArray.empty [] []
/-- A value that is neither a list nor an object. -/
def plainL (l : List UInt8) : Got :=
  match takeP [110, 117, 108, 108] l with
  | some r => .ok (noJs, r)
  | none => match takeP [116, 114, 117, 101] l with
    | some r => .ok (boolJ true, r)
    | none => match takeP [102, 97, 108, 115, 101] l with
      | some r => .ok (boolJ false, r)
      | none => match digitL l with
        | .error e => .error e
        | .ok (n, r) => .ok (numJ n, r)
/-- A value; as many more lists may lie in one another. -/
def valueL : Nat → List UInt8 → Got
  | _, [] => plainL []
  | d, c :: r =>
    if c = 34 then (match wordL r with | .error e => .error e | .ok (k, q) => .ok (textJ k, q))
    else if c = 91 ∨ c = 123 then (match d with | 0 => .error 151 | d + 1 => itemsL (valueL d) (decide (c = 123)) r)
    else plainL (c :: r)
def parseL (s : List UInt8) : Except Int Js :=
  match valueL 64 (skipL s) with
  | .error e => .error e
  | .ok (v, r) => if skipL r = [] then .ok v else .error 150
end Go.Proofs.YtamclieppbnpiabGreatDoor
