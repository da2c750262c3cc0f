/-
  The parser, plainly: what the program makes of tokens, by so many steps. No program here.
-/
import Derived.Test.YtebejlnegalokaaGreatDoorProg
import Derived.Test.YtebejlnegalokaaGreatDoorReg
import Derived.WalkKit
import Derived.WalkSpells
import Derived.WalkLawsBesides
import Derived.Lib.Hide
import Derived.Lib.MinMax
import Derived.Deep.QuietTactic
import Derived.BigQuiet
import Derived.OwnWalk
import Derived.Deep.AppendLies
import Derived.KernelRfl
import Derived.Test.YtebejlnegalokaaGreatDoorGzM5
import Derived.Test.YtebejlnegalokaaGreatDoorNzM10
import Derived.RangeFuncNested
import Derived.RangeFuncBound
import Derived.RangeFuncCalls
import Derived.RangeFuncLeaves
import Derived.RangeFuncBox
import Derived.OwnWalkIn
import Derived.TacticsInMore
import Derived.LoopNIn
import Derived.LoopIn
import Derived.Deep.RegionLaw
import Derived.Deep.Cut
import Derived.Deep.RegionWith
import Derived.Test.YtebejlnegalokaaGreatDoorRegIn
import Derived.Test.YtebejlnegalokaaGreatDoorRegG
import Derived.Test.YtebejlnegalokaaGreatDoorRegZ
import Derived.Test.YtebejlnegalokaaGreatDoorJoint2
set_option linter.unusedSimpArgs false
set_option linter.unusedVariables false
namespace Go.Proofs.YtebejlnegalokaaGreatDoor
open Go.RowKit
open Gz (Tok mildT insideRes splitRes matchOf codeOf gPar gPas gCur gCus)
open Nz (Nd rightN joinN rootKids nodeAt)

/-- A name that is bound. -/
structure Bd where
  name : ByteArray
  fn : Bool
deriving DecidableEq
def clsOf (env : List Bd) (n : ByteArray) : Option Bool := (env.reverse.find? (fun b => decide (b.name = n))).map (·.fn)
/-- Does a name mean a function? -/
def fnOf (env : List Bd) (n : ByteArray) : Bool := (clsOf env n).getD false

def gSet : ByteArray := ⟨#[226, 134, 144]⟩
def gDia : ByteArray := ⟨#[226, 139, 132]⟩
def gCol : ByteArray := ⟨#[58]⟩
def noB : ByteArray := ⟨#[]⟩

/-- How many tokens stand ahead of the operators at the end: at least one, if there is one. -/
def cutGo (l : List Tok) : Nat → Nat
  | 0 => 0
  | 1 => 1
  | n + 2 => if (l[n + 1]?).any (fun x => decide (x.kind = 7)) then cutGo l (n + 1) else n + 2
def cutN (l : List Tok) : Nat := cutGo l l.length
def innerL (l : List Tok) : List Tok := (l.drop 1).take (l.length - 2)
/-- Brackets, and what is between. -/
def isGrp (l : List Tok) (g : ByteArray) : Bool := decide (2 ≤ l.length) && ((l[0]?).any (·.isSign g) && (decide ((insideRes l 0).2 = 0) && decide ((insideRes l 0).1.length + 2 = l.length)))
def one1 (env : List Bd) (b : List Tok) : Bool := (b[0]?).any fun x => if x.kind = 5 then fnOf env x.text else decide (x.kind = 6)
/-- Do tokens look like a function? -/
def isFnF (env : List Bd) : Nat → List Tok → Bool
  | 0, _ => false
  | k + 1, l => if (l.take (cutN l)).length = 1 then one1 env (l.take (cutN l)) else isGrp (l.take (cutN l)) gCur || (isGrp (l.take (cutN l)) gPar && isFnF env k (innerL (l.take (cutN l))))
def isFn (env : List Bd) (l : List Tok) : Bool := isFnF env (l.length + 1) l

/-- Where the last group begins, or the last token. -/
def lastAt (l : List Tok) : Nat := if codeOf l = 0 ∧ 0 ≤ (matchOf l).getD (l.length - 1) (-1) then ((matchOf l).getD (l.length - 1) (-1)).toNat else l.length - 1
/-- Where the function at the end begins. -/
def funAt (env : List Bd) (l : List Tok) : Option Nat := let a := lastAt (l.take (cutN l)); if isFn env (l.drop a) then some a else none
def numsGo (l : List Tok) : Nat → Nat
  | 0 => 0
  | n + 1 => if (l[n]?).any (fun x => decide (x.kind = 3)) then numsGo l n else n + 1
/-- Where the value at the end begins. -/
def valAt (env : List Bd) (inner : Bool) (l : List Tok) : Option Nat := match l[l.length - 1]? with
  | none => none
  | some x =>
    if x.kind = 3 then some (numsGo l l.length)
    else if x.kind = 4 then some (l.length - 1)
    else if x.kind = 9 then (if inner then some (l.length - 1) else none)
    else if x.kind = 5 then (if fnOf env x.text then none else some (l.length - 1))
    else if x.kind = 8 then (if isGrp (l.drop (lastAt l)) gPar && !isFn env (l.drop (lastAt l)) then some (lastAt l) else none)
    else none

/-- A tree; true: no syntax; false: no tree. -/
abbrev PR := Except Bool (List Nd)
def joinP (kind : Int) (text : ByteArray) (kids : List (List Nd)) : PR := match joinN kind text kids with
  | some t => .ok t
  | none => .error false
/-- Is the node at a place a function's? -/
def isFunF (t : List Nd) : Nat → Int → Bool
  | 0, _ => false
  | k + 1, i => let x := nodeAt t i.toNat; if x.kind = 5 then isFunF t k (x.kids.getD 0 0) else decide (x.kind = 9) || (decide (x.kind = 14) || (decide (x.kind = 10) || decide (x.kind = 11)))
def bindsN (t : List Nd) : Option Bd :=
  if rightN t = true then (let x := nodeAt t (t.length - 1); if x.kind = 8 then some ⟨x.text, isFunF t t.length (x.kids.getD 0 0)⟩ else none) else none

structure Pz where
  expr : List Bd → Bool → List Tok → PR
  fn : List Bd → Bool → List Tok → PR
  stmt : List Bd → Bool → List Tok → PR
/-- Texts with a blank between two. -/
def joinG : List ByteArray → ByteArray
  | [] => ⟨#[]⟩
  | [x] => x
  | x :: y :: l => x ++ ⟨#[32]⟩ ++ joinG (y :: l)
def valP (p : Pz) (env : List Bd) (inner : Bool) (l : List Tok) : PR := match l with
  | [] => .error true
  | x :: _ =>
    if x.kind = 3 then joinP 1 (joinG (l.map (·.glyph))) []
    else if x.kind = 4 then joinP 2 x.text []
    else if x.kind = 9 then joinP 4 x.glyph []
    else if x.kind = 5 then joinP 3 x.text []
    else match p.expr env inner (innerL l) with
      | .error e => .error e
      | .ok t => joinP 5 noB [t]
/-- A function applied to a tree; what is ahead. -/
def applyP (p : Pz) (env : List Bd) (inner : Bool) (l : List Tok) (right : List Nd) : Except Bool (List Nd × List Tok) := match funAt env l with
  | none => .error true
  | some a => match p.fn env inner (l.drop a) with
    | .error e => .error e
    | .ok f => match valAt env inner (l.take a) with
      | none => (match joinP 6 noB [f, right] with | .error e => .error e | .ok t => .ok (t, l.take a))
      | some b => match valP p env inner ((l.take a).drop b) with
        | .error e => .error e
        | .ok x => (match joinP 7 noB [x, f, right] with | .error e => .error e | .ok t => .ok (t, (l.take a).take b))
def exprGo (p : Pz) (env : List Bd) (inner : Bool) : Nat → List Tok → List Nd → PR
  | _, [], t => .ok t
  | 0, _, _ => .error true
  | k + 1, x :: l, t => match applyP p env inner (x :: l) t with
    | .error e => .error e
    | .ok (t', l') => exprGo p env inner k l' t'
def exprP (p : Pz) (env : List Bd) (inner : Bool) (l : List Tok) : PR := match valAt env inner l with
  | none => .error true
  | some a => match valP p env inner (l.drop a) with
    | .error e => .error e
    | .ok t => exprGo p env inner l.length (l.take a) t
def bodyGo (p : Pz) : List Bd → List (List Nd) → List (List Tok) → Except Bool (List (List Nd))
  | _, ks, [] => .ok ks
  | env, ks, x :: l => match p.stmt env true x with
    | .error e => .error e
    | .ok t => bodyGo p (match bindsN t with | some b => env ++ [b] | none => env) (ks ++ [t]) l
def bodyP (p : Pz) (env : List Bd) (l : List Tok) : PR := match bodyGo p env [] (splitRes l gDia).1 with
  | .error e => .error e
  | .ok ks => joinP 11 noB ks
def baseP (p : Pz) (env : List Bd) (inner : Bool) (l : List Tok) : PR :=
  if isGrp l gCur then bodyP p env (innerL l)
  else if isGrp l gPar then (match p.fn env inner (innerL l) with | .error e => .error e | .ok t => joinP 5 noB [t])
  else match l with
    | [] => .error true
    | x :: _ => if x.kind = 6 then joinP 9 x.glyph [] else joinP 14 x.text []
def opsGo : PR → List Tok → PR
  | r, [] => r
  | .error e, _ :: l => opsGo (.error e) l
  | .ok t, x :: l => opsGo (joinP 10 x.glyph [t]) l
def funP (p : Pz) (env : List Bd) (inner : Bool) (l : List Tok) : PR := if isFn env l then opsGo (baseP p env inner (l.take (cutN l))) (l.drop (cutN l)) else .error true
/-- A statement that makes a name. -/
def makes (l : List Tok) : Bool := decide (2 < l.length) && ((l[0]?).any (fun x => decide (x.kind = 5)) && (l[1]?).any (·.isSign gSet))
def stmtP (p : Pz) (env : List Bd) (inner : Bool) (l : List Tok) : PR :=
  if makes l then (match (if isFn env (l.drop 2) then p.fn env inner (l.drop 2) else p.expr env inner (l.drop 2)) with
    | .error e => .error e
    | .ok t => joinP 8 ((l[0]?).map (·.text) |>.getD noB) [t])
  else if (splitRes l gCol).1.length = 2 ∧ inner = true then
    (match p.expr env inner ((splitRes l gCol).1.getD 0 []) with
    | .error e => .error e
    | .ok a => match p.expr env inner ((splitRes l gCol).1.getD 1 []) with
      | .error e => .error e
      | .ok b => joinP 12 noB [a, b])
  else p.expr env inner l
def pz : Nat → Pz
  | 0 => ⟨fun _ _ _ => .error true, fun _ _ _ => .error true, fun _ _ _ => .error true⟩
  | k + 1 => ⟨exprP (pz k), funP (pz k), stmtP (pz k)⟩
/-- As many steps as are enough. -/
def pzOf (l : List Tok) : Pz := pz (2 * l.length + 2)

/-! ### Whole lists of tokens -/
def isTok (x : Tok) : Bool :=
  if x.kind = 3 ∨ x.kind = 6 ∨ x.kind = 7 ∨ x.kind = 9 then decide (x.glyph ≠ noB)
  else if x.kind = 4 ∨ x.kind = 5 then decide (x.text ≠ noB)
  else decide (x.kind = 8)
/-- Why tokens are none of this chapter; 0: they are. -/
def checkOf (l : List Tok) : Int := if l.all isTok then (if codeOf l = 0 then (if 100 < l.length then 70 else 0) else codeOf l) else 81
def codeP : PR → Int
  | .ok _ => 0
  | .error true => 80
  | .error false => 70
def treeP : PR → List Nd
  | .ok t => t
  | .error _ => []
def parseOf (l : List Tok) (r : PR) : List Nd × Int := if checkOf l = 0 then (treeP r, codeP r) else ([], checkOf l)
def exprOf (l : List Tok) (env : List Bd) (inner : Bool) : List Nd × Int := parseOf l ((pzOf l).expr env inner l)
def funOf (l : List Tok) (env : List Bd) (inner : Bool) : List Nd × Int := parseOf l ((pzOf l).fn env inner l)
def stmtOf (l : List Tok) (env : List Bd) (inner : Bool) : List Nd × Int := parseOf l ((pzOf l).stmt env inner l)
end Go.Proofs.YtebejlnegalokaaGreatDoor
/-
  Names that are bound, in memory; a name's class: by the program.
-/
namespace Go.Proofs.YtebejlnegalokaaGreatDoor
open Go Go.RowKit Go.Maps

attribute [local go_sem] Oper.semAt_some

theorem cell_lt {w : World} {p : Addr} {v : Value} (h : w.cell? p = some v) : p.block < w.heap.size := Gz.cell_lt h
theorem below_new (w : World) (o : Obj) : Below w.heap.size w (w.alloc o) := (Below.refl _ w).alloc (Nat.le_refl _) _
/-- The slice value '.slice A n c' holds, in w, the names l. -/
def HoldsE (w : World) (A : Option Addr) (l : List Bd) : Prop :=
  ∀ (k : Nat) (x : Bd), l[k]? = some x → ∃ b off, A = some ⟨b, off, none⟩ ∧ w.cell? ⟨b, off + k * 2, none⟩ = some (.string x.name) ∧ w.cell? ⟨b, off + k * 2 + 1, none⟩ = some (.bool x.fn)
theorem HoldsE.below {w w' : World} {A : Option Addr} {l : List Bd} (h : HoldsE w A l) (hb : Below w.heap.size w w') : HoldsE w' A l := fun k x hx => by
  obtain ⟨b, off, e, h1, h2⟩ := h k x hx
  exact ⟨b, off, e, (hb.cell (p := ⟨b, _, none⟩) (cell_lt h1)).trans h1, (hb.cell (p := ⟨b, _, none⟩) (cell_lt h2)).trans h2⟩
theorem HoldsE.nil (w : World) (A : Option Addr) : HoldsE w A [] := fun k x hx => by simp at hx
theorem HoldsE.drewN {w : World} {A : Option Addr} {l : List Bd} (h : HoldsE w A l) (n : Nat) : HoldsE (w.drewN n) A l := h

theorem last_any (v : Value) (w : World) :
    Calls Tryz.prog 45 #[.agg #[v]] w fun e w' => e = .returned (.func (.func 66) #[] #[.pointer (some ⟨w.heap.size, 0, none⟩)]) ∧ w' = w.alloc (.cells #[v] 52) := by
  go_enter Tryz.func45, Tryz.ntmps45
  go_wp2_with fail
  go_ret
  exact ⟨rfl, rfl⟩

set_option maxRecDepth 100000 in
set_option maxHeartbeats 8000000 in
theorem last1_any (n L pb : Nat) (A : Option Addr) (c : Nat) (env : List Bd) (J : Nat → World → Prop) (Jx : World → Prop) (W : World) (hl : env.length ≤ 1000000) (h0 : J 0 W)
    (hJ : ∀ i W1, J i W1 → W1.cell? ⟨pb, 0, none⟩ = some (.slice A env.length c) ∧ HoldsE W1 A env)
    (hY : ∀ (i : Nat) (x : Bd) (W1 : World), i < env.length → env[env.length - 1 - i]? = some x → J i W1 → YieldAt Fence.wide n Tryz.prog L #[.agg #[.string x.name, .bool x.fn]] W1 fun e W' =>
      (e = .returned (.bool true) ∧ J (i + 1) W') ∨ (e = .returned (.bool false) ∧ Jx W')) :
    Calls Tryz.prog 66 #[.func (.yield L) #[] #[], .pointer (some ⟨pb, 0, none⟩)] W fun e W' => (∃ v, e = .returned v) ∧ (J env.length W' ∨ Jx W') := by
  have HY := Lib.hid hY
  have HJJ := Lib.hid hJ
  have H0 := Lib.hid h0
  obtain ⟨c0, _⟩ := hJ 0 W h0
  clear hY hJ h0
  go_enter Tryz.func66, Tryz.ntmps66
  go_wp2_with fail
  go_step3
  go_wp2_with fail
  go_step3
  go_wp2_with fail
  go_loopw [3] (fun s wr => ∃ (i : Nat), s = .int .i64 ((env.length : Int) - 1 - i) ∧ i ≤ env.length ∧ Hid (J i wr)) (fun s _ => (intOf s + 1).toNat)
  case atStart => exact ⟨0, by simp, Nat.zero_le _, H0⟩
  case round =>
    obtain ⟨i, rfl, hi, HJ⟩ := hrel
    obtain ⟨cb, hE⟩ := HJJ.out _ _ HJ.out
    by_cases hlt : i < env.length
    · have g := List.getElem?_eq_getElem (l := env) (i := env.length - 1 - i) (by omega)
      generalize env[env.length - 1 - i]'(by omega) = x at *
      obtain ⟨b, off, rfl, d0, d1⟩ := hE _ x g
      have hidx : (env.length : Int) - 1 - (i : Int) = ((env.length - 1 - i : Nat) : Int) := by omega
      have k0 : (0 : Int) ≤ ((env.length - 1 - i : Nat) : Int) := by omega
      have k1 : ((env.length - 1 - i : Nat) : Int) < (env.length : Int) := by omega
      have k2 : env.length - 1 - i < env.length := by omega
      obtain ⟨fn, tmps, assign, body, hy, hR⟩ := HY.out i x wr hlt g HJ.out
      have HR := Lib.hid hR
      have hstep : ((env.length - 1 - i : Nat) : Int) - 1 = (env.length : Int) - 1 - ((i + 1 : Nat) : Int) := by omega
      have HSt := Lib.hid hstep
      rw [hidx]
      obtain ⟨q, hq⟩ : ∃ q, q = env.length - 1 - i := ⟨_, rfl⟩
      rw [← hq] at d0 d1 k0 k1 k2 HSt ⊢
      have HQ := Lib.hid hq
      clear hR hE g hidx hq hstep
      go_upto_region 3 with fail
      refine (wpIn_wide (n := n + 1)).1 ?_
      gi_wp2_with fail
      refine HR.out.mono ?_
      rintro e w4 (⟨rfl, hJ4⟩ | ⟨rfl, hJ4⟩)
      · have HJ4 := Lib.hid hJ4
        clear hJ4
        gi_wp2_with fail
        go_wp2_with fail
        go_roundw
        case rel => exact ⟨i + 1, by rw [← HSt.out], by omega, HJ4⟩
        case measure => have h1 := HQ.out; have h2 := HSt.out; simp [intOf]; first | done | omega
      · have HJ4 := Lib.hid hJ4
        clear hJ4
        gi_wp2_with fail
        go_wp2_with fail
        try rw [Exit.noGoto_normal]
        go_end0
        exact ⟨⟨_, rfl⟩, .inr HJ4.out⟩
    · obtain rfl : i = env.length := by omega
      have k0 : (env.length : Int) - 1 - (env.length : Int) = -1 := by omega
      rw [k0]
      have HJe := HJ
      clear HJ hE
      go_wp2_with fail
      try rw [Exit.noGoto_normal]
      go_end0
      exact ⟨⟨_, rfl⟩, .inl HJe.out⟩

/-- What the loop over the names holds. -/
structure ClsAt (w : World) (name : ByteArray) (v : Value) (L D : Nat) (r : Loop) (r1 r2 : Bool) (W : World) : Prop where
  low : Below w.heap.size w W
  b1 : W.heap[w.heap.size + 1]? = some (.cells #[.string name] 9 (0, 0))
  b2 : W.heap[w.heap.size + 2]? = some (.cells #[.bool r1] 4 (0, 0))
  b3 : W.heap[w.heap.size + 3]? = some (.cells #[.bool r2] 4 (0, 0))
  b4 : W.heap[w.heap.size + 4]? = some (.cells #[v] 52 (0, 0))
  books : Books L D r W
theorem ClsAt.put {w : World} {name : ByteArray} {v : Value} {L D : Nat} {r r' : Loop} {r1 r2 : Bool} {W : World} (h : ClsAt w name v L D r r1 r2 W) (hL : w.heap.size + 5 ≤ L) : ClsAt w name v L D r' r1 r2 (W.putObj L (.loop r')) := by
  have ho : ∀ j, j ≠ L → (W.putObj L (.loop r')).heap[j]? = W.heap[j]? := fun j hj => World.putObj_heap_other hj
  refine ⟨h.low.trans ⟨rfl, rfl, rfl, by simp [World.putObj], fun k hk => ho k (by omega)⟩, (ho _ (by omega)).trans h.b1, (ho _ (by omega)).trans h.b2, (ho _ (by omega)).trans h.b3, (ho _ (by omega)).trans h.b4, h.books.put r'⟩
theorem ClsAt.below {w : World} {name : ByteArray} {v : Value} {L D : Nat} {r : Loop} {r1 r2 : Bool} {W W' : World} {m : Nat} (h : ClsAt w name v L D r r1 r2 W) (hb : Below m W W') (hm : w.heap.size + 5 ≤ m) (hL : L < m) (hD : D < m) : ClsAt w name v L D r r1 r2 W' :=
  ⟨h.low.trans (hb.mono (by omega)), (hb.block _ (by omega)).trans h.b1, (hb.block _ (by omega)).trans h.b2, (hb.block _ (by omega)).trans h.b3, (hb.block _ (by omega)).trans h.b4, ⟨(hb.block _ hL).trans h.books.lp, (hb.block _ hD).trans h.books.calls, h.books.ne⟩⟩

theorem ClsAt.store {w : World} {name : ByteArray} {v : Value} {L D : Nat} {r : Loop} {r1 r2 : Bool} {W : World} (h : ClsAt w name v L D r r1 r2 W) (b1 b2 : Bool) (hL : w.heap.size + 5 ≤ L) (hD : w.heap.size + 5 ≤ D) :
    ClsAt w name v L D r b1 b2 ((W.setCell ⟨w.heap.size + 1 + 1, 0, none⟩ (.bool b1)).setCell ⟨w.heap.size + 1 + 1 + 1, 0, none⟩ (.bool b2)) := by
  have o1 : ∀ j, j ≠ w.heap.size + 2 → (W.setCell ⟨w.heap.size + 1 + 1, 0, none⟩ (.bool b1)).heap[j]? = W.heap[j]? := fun j hj => heap_setCell_other _ _ _ _ (by simpa using hj)
  obtain ⟨V, hV⟩ : ∃ V, V = W.setCell ⟨w.heap.size + 1 + 1, 0, none⟩ (.bool b1) := ⟨_, rfl⟩
  rw [← hV] at o1 ⊢
  have o2 : ∀ j, j ≠ w.heap.size + 3 → (V.setCell ⟨w.heap.size + 1 + 1 + 1, 0, none⟩ (.bool b2)).heap[j]? = V.heap[j]? := fun j hj => heap_setCell_other _ _ _ _ (by simpa using hj)
  have e2 : V.heap[w.heap.size + 2]? = some (.cells #[.bool b1] 4 (0, 0)) := by
    rw [hV, heap_setCell_same W (w.heap.size + 2) 0 _ _ _ h.b2]
    simp
  have e3 : V.heap[w.heap.size + 3]? = some (.cells #[.bool r2] 4 (0, 0)) := (o1 _ (by omega)).trans h.b3
  have hb1 : Below w.heap.size W V := by rw [hV]; exact Below.setCell (Below.refl _ W) (by show w.heap.size ≤ w.heap.size + 1 + 1; omega) _
  have hb2 : Below w.heap.size V (V.setCell ⟨w.heap.size + 1 + 1 + 1, 0, none⟩ (.bool b2)) := Below.setCell (Below.refl _ V) (by show w.heap.size ≤ w.heap.size + 1 + 1 + 1; omega) _
  refine ⟨h.low.trans (hb1.trans hb2), (o2 _ (by omega)).trans ((o1 _ (by omega)).trans h.b1), (o2 _ (by omega)).trans e2, ?_, (o2 _ (by omega)).trans ((o1 _ (by omega)).trans h.b4),
    ⟨(o2 _ (by omega)).trans ((o1 _ (by omega)).trans h.books.lp), (o2 _ (by omega)).trans ((o1 _ (by omega)).trans h.books.calls), h.books.ne⟩⟩
  rw [heap_setCell_same V (w.heap.size + 3) 0 _ _ _ e3]
  simp

theorem clsOf_at {env : List Bd} {n : ByteArray} {i : Nat} {x : Bd} (hi : i < env.length) (hx : env[env.length - 1 - i]? = some x) (hb : ∀ j, j < i → ∀ y, env[env.length - 1 - j]? = some y → y.name ≠ n) (hn : x.name = n) : clsOf env n = some x.fn := by
  unfold clsOf
  have hrev : env.reverse[i]? = some x := by rw [List.getElem?_reverse hi]; exact hx
  obtain ⟨h1, h2⟩ := List.getElem?_eq_some_iff.1 hrev
  have hsp : env.reverse = env.reverse.take i ++ x :: env.reverse.drop (i + 1) := by
    rw [← h2, ← List.drop_eq_getElem_cons h1, List.take_append_drop]
  rw [hsp, List.find?_append]
  have hnone : (env.reverse.take i).find? (fun b => decide (b.name = n)) = none := by
    rw [List.find?_eq_none]
    intro y hy
    obtain ⟨j, hj, hje⟩ := List.mem_take_iff_getElem.1 hy
    have hj1 : j < i := by omega
    have hy2 : env[env.length - 1 - j]? = some y := by
      have : env.reverse[j]? = some y := by exact List.getElem?_eq_some_iff.2 ⟨_, hje⟩
      rwa [List.getElem?_reverse (by omega)] at this
    simpa using hb j hj1 y hy2
  rw [hnone, Option.none_or, List.find?_cons_of_pos (by simpa using hn)]
  rfl
theorem clsOf_none {env : List Bd} {n : ByteArray} (hb : ∀ j, j < env.length → ∀ y, env[env.length - 1 - j]? = some y → y.name ≠ n) : clsOf env n = none := by
  unfold clsOf
  rw [List.find?_eq_none.2]
  · rfl
  · intro y hy
    rw [List.mem_reverse] at hy
    obtain ⟨k, hk, hke⟩ := List.mem_iff_getElem.1 hy
    have := hb (env.length - 1 - k) (by omega) y (by rw [show env.length - 1 - (env.length - 1 - k) = k by omega, ← hke]; exact List.getElem?_eq_getElem _)
    simpa using this

set_option maxRecDepth 100000 in
set_option maxHeartbeats 8000000 in
/-- A name's class. -/
theorem class_any (A : Option Addr) (c : Nat) (env : List Bd) (name : ByteArray) (w : World) (hl : env.length ≤ 1000000) (hE : HoldsE w A env) :
    Calls Tryz.prog 25 #[.agg #[.slice A env.length c], .string name] w fun e w' => e = .returned (.tuple #[.bool (fnOf env name), .bool (clsOf env name).isSome]) ∧ Below w.heap.size w w' := by
  -- the four cells that the call makes first
  have step : ∀ (W : World) (o : Obj) (n : Nat), W.heap.size = n → (W.alloc o).heap.size = n + 1 ∧ (W.alloc o).heap[n]? = some o ∧ ∀ k, k < n → (W.alloc o).heap[k]? = W.heap[k]? := fun W o n h => by
    subst h
    exact ⟨by simp, heap_alloc_new W o, fun k hk => (below_new W o).block k hk⟩
  obtain ⟨V1, hV1⟩ : ∃ V1, V1 = w.alloc (.cells #[.slice A env.length c] 52) := ⟨_, rfl⟩
  obtain ⟨V2, hV2⟩ : ∃ V2, V2 = V1.alloc (.cells #[.string name] 9) := ⟨_, rfl⟩
  obtain ⟨V3, hV3⟩ : ∃ V3, V3 = V2.alloc (.cells #[.bool false] 4) := ⟨_, rfl⟩
  obtain ⟨V4, hV4⟩ : ∃ V4, V4 = V3.alloc (.cells #[.bool false] 4) := ⟨_, rfl⟩
  obtain ⟨s1, n1, o1⟩ := step w (.cells #[.slice A env.length c] 52) _ rfl
  rw [← hV1] at s1 n1 o1
  obtain ⟨s2, n2, o2⟩ := step V1 (.cells #[.string name] 9) _ s1
  rw [← hV2] at s2 n2 o2
  obtain ⟨s3, n3, o3⟩ := step V2 (.cells #[.bool false] 4) _ s2
  rw [← hV3] at s3 n3 o3
  obtain ⟨s4, n4, o4⟩ := step V3 (.cells #[.bool false] 4) _ s3
  rw [← hV4] at s4 n4 o4
  obtain ⟨V, hV⟩ : ∃ V, V = V4.alloc (.cells #[.slice A env.length c] 52) := ⟨_, rfl⟩
  obtain ⟨s5, n5, o5⟩ := step V4 (.cells #[.slice A env.length c] 52) _ s4
  rw [← hV] at s5 n5 o5
  have hb4 : Below w.heap.size w V4 := by rw [hV4, hV3, hV2, hV1]; exact ((((Below.refl _ w).alloc (Nat.le_refl _) _).alloc (by simp) _).alloc (by simp; omega) _).alloc (by simp; omega) _
  have hbV : Below w.heap.size w V := by rw [hV]; exact hb4.alloc (by omega) _
  have HV4 : Hid (V4 = (((w.alloc (.cells #[.slice A env.length c] 52)).alloc (.cells #[.string name] 9)).alloc (.cells #[.bool false] 4)).alloc (.cells #[.bool false] 4)) := Lib.hid (by rw [hV4, hV3, hV2, hV1])
  have HBV := Lib.hid hbV
  have HS5 := Lib.hid s5
  have HS4 := Lib.hid s4
  have hHV := Lib.hid hV
  have p1 := Lib.hid ((o5 _ (by omega)).trans ((o4 _ (by omega)).trans ((o3 _ (by omega)).trans n2)))
  have p2 := Lib.hid ((o5 _ (by omega)).trans ((o4 _ (by omega)).trans n3))
  have p3 := Lib.hid ((o5 _ (by omega)).trans n4)
  have p4 := Lib.hid n5
  have HEV := Lib.hid (hE.below hbV)
  clear s1 n1 o1 s2 n2 o2 s3 n3 o3 s4 n4 o4 s5 n5 o5 hb4 hbV hV4 hV3 hV2 hV1 hV step V1 V2 V3
  refine calls_of_wp_marks 3 Tryz.func25 rfl ?_
  simp only [Tryz.ntmps25, List.size_toArray, List.length_cons, List.length_nil, Nat.reduceAdd, Nat.reduceSub, Array.replicate_succ, Array.replicate_zero, List.push_toArray, List.append_toArray, List.nil_append, List.cons_append]
  go_wp2_with fail
  refine (last_any _ _).mono ?_
  rintro e w2 ⟨rfl, rfl⟩
  rw [← HV4.out, ← hHV.out]
  go_wp2_with fail
  rw [HS4.out]
  refine wpIn_wide.1 (range_both (n := 3) (F := Fence.wide) rfl (by omega) (gf := 66) (lb := #[.pointer (some ⟨w.heap.size + 4, 0, none⟩)]) rfl trivial (enters_of Tryz.func66 (by kernel_rfl) rfl) ?_)
  intro fn r W hfn hr hW hBk
  have hVW : Below V.heap.size V W := by rw [hW]; exact ((Below.refl _ V).alloc (Nat.le_refl _) _).alloc (by simp) _
  have hzV := HS5.out
  have hzW : W.heap.size = w.heap.size + 7 := by rw [hW]; simp; omega
  rw [hzV] at hBk hVW ⊢
  have hF0 : ClsAt w name (.slice A env.length c) (w.heap.size + 4 + 1 + 1) (w.heap.size + 4 + 1) r false false W :=
    ⟨HBV.out.trans (hVW.mono (by omega)), (hVW.block _ (by omega)).trans p1.out, (hVW.block _ (by omega)).trans p2.out, (hVW.block _ (by omega)).trans p3.out, (hVW.block _ (by omega)).trans p4.out, hBk⟩
  refine callsIn_wide.2 ((last1_any 2 (w.heap.size + 4 + 1 + 1) (w.heap.size + 4) A c env
    (fun i W' => (∀ j, j < i → ∀ y, env[env.length - 1 - j]? = some y → y.name ≠ name) ∧ W.heap.size ≤ W'.heap.size ∧ ClsAt w name (.slice A env.length c) (w.heap.size + 4 + 1 + 1) (w.heap.size + 4 + 1) r false false W')
    (fun W' => ∃ b : Bool, clsOf env name = some b ∧ ClsAt w name (.slice A env.length c) (w.heap.size + 4 + 1 + 1) (w.heap.size + 4 + 1) { r with state := .done, pending := some .ret } b true W') W hl ⟨fun j hj => by omega, Nat.le_refl _, hF0⟩ ?hHolds ?hRounds).mono ?_)
  case hHolds =>
    rintro i W1 ⟨_, _, hF⟩
    have h4 := hF.b4
    exact ⟨by simp [World.cell?, h4], hE.below hF.low⟩
  case hRounds =>
    rintro i x W5 hi hx ⟨hh, hz5, hF5⟩
    rw [hzW] at hz5
    have r1 : r.state = .ready := by rw [hr]
    have r2 : r.pending = none := by rw [hr]
    have r3 : r.params.size = 1 := by rw [hr]; rfl
    have hXa := heap_alloc_new W5 (.cells #[.string x.name, .bool x.fn] 30)
    have hBa := below_new W5 (.cells #[.string x.name, .bool x.fn] 30)
    have hKa : KeepsOthers W5 (W5.alloc (.cells #[.string x.name, .bool x.fn] 30)) := KeepsOthers.alloc _ _
    have hza : (W5.alloc (.cells #[.string x.name, .bool x.fn] 30)).heap.size = W5.heap.size + 1 := by simp
    have hFa := hF5.below hBa (by omega) (by omega) (by omega)
    have hF6 := hFa.put (r' := { r with state := .busy }) (by omega)
    obtain ⟨W6, hW6⟩ : ∃ W6, (W5.alloc (.cells #[.string x.name, .bool x.fn] 30)).putObj (w.heap.size + 4 + 1 + 1) (.loop { r with state := .busy }) = W6 := ⟨_, rfl⟩
    have hX6 : W6.heap[W5.heap.size]? = some (.cells #[.string x.name, .bool x.fn] 30 (0, 0)) := by rw [← hW6]; exact (World.putObj_heap_other (by omega)).trans hXa
    have hz6 : W6.heap.size = W5.heap.size + 1 := by rw [← hW6]; simp [World.putObj]
    rw [hW6] at hF6
    refine (round_both (F := Fence.wide) (n := 2) (args := #[.agg #[.string x.name, .bool x.fn]])
      (Post := fun W3 => x.name ≠ name ∧ ClsAt w name (.slice A env.length c) (w.heap.size + 4 + 1 + 1) (w.heap.size + 4 + 1) { r with state := .busy } false false W3 ∧ W6.heap.size ≤ W3.heap.size)
      (PostX := fun cd W3 => cd = .ret ∧ x.name = name ∧ ClsAt w name (.slice A env.length c) (w.heap.size + 4 + 1 + 1) (w.heap.size + 4 + 1) { r with state := .busy } x.fn true W3) trivial hF5.books r1 r2 (by rw [r3]; rfl) ?_).mono ?_
    · have HW6 := Lib.hid hW6
      clear hzV
      have HF6 := Lib.hid hF6
      have b1 := hF6.b1
      have b2 := hF6.b2
      have b3 := hF6.b3
      have cN : W6.cell? ⟨w.heap.size + 1, 0, none⟩ = some (.string name) := by simp [World.cell?, b1]
      have y1 : W6.cell? ⟨w.heap.size + 1 + 1, 0, none⟩ = some (.bool false) := by simp [World.cell?, b2]
      have y2 : W6.cell? ⟨w.heap.size + 1 + 1 + 1, 0, none⟩ = some (.bool false) := by simp [World.cell?, b3]
      have x0 : W6.cell? ⟨W5.heap.size, 0, none⟩ = some (.string x.name) := by simp [World.cell?, hX6]
      have x1 : W6.cell? ⟨W5.heap.size, 1, none⟩ = some (.bool x.fn) := by simp [World.cell?, hX6]
      have z1 : ∀ j, W6.frozen? ⟨w.heap.size + 1 + 1, j, none⟩ = false := fun j => frozen_of_row W6 _ j _ _ b2
      have z2 : ∀ j, W6.frozen? ⟨w.heap.size + 1 + 1 + 1, j, none⟩ = false := fun j => frozen_of_row W6 _ j _ _ b3
      clear hW6 hF6 hX6 hFa hXa hBa hF5 hF0 hh hVW hBk hW r1 r2 r3 b1 b2 b3 hza
      subst hr
      gi_wp2_with fail
      refine ⟨hKa, ?_⟩
      rw [HW6.out]
      clear hKa HW6
      by_cases hn : x.name = name
      · have q := bytes_beq_yes hn
        have HN := Lib.hid hn
        clear hn
        have n1 : w.heap.size + 1 + 1 ≠ W5.heap.size := by omega
        have n2 : w.heap.size + 1 + 1 + 1 ≠ W5.heap.size := by omega
        have ly1 := cell_lt y1
        have ly2 := cell_lt y2
        have hbB := below_new W6 (.cells #[.string name, .bool x.fn] 30)
        have y1b := (hbB.cell (p := ⟨w.heap.size + 1 + 1, 0, none⟩) ly1).trans y1
        have y2b := (hbB.cell (p := ⟨w.heap.size + 1 + 1 + 1, 0, none⟩) ly2).trans y2
        have z1b := (hbB.frozen (p := ⟨w.heap.size + 1 + 1, 0, none⟩) ly1).trans (z1 0)
        have z2b := (hbB.frozen (p := ⟨w.heap.size + 1 + 1 + 1, 0, none⟩) ly2).trans (z2 0)
        have HBB := Lib.hid hbB
        clear hbB
        gi_wp2_with fail
        have hFb := HF6.out.below HBB.out (by omega) (by omega) (by omega)
        exact ⟨((KeepsOthers.alloc _ _).trans (KeepsOthers.setCell _ _ _)).trans (KeepsOthers.setCell _ _ _), rfl, HN.out, hFb.store x.fn true (by omega) (by omega)⟩
      · have q := bytes_beq_no hn
        have HN := Lib.hid hn
        clear hn
        have hbB := below_new W6 (.cells #[.string name, .bool x.fn] 30)
        have HBB := Lib.hid hbB
        clear hbB
        gi_wp2_with fail
        have hFb := HF6.out.below HBB.out (by omega) (by omega) (by omega)
        exact ⟨KeepsOthers.alloc _ _, HN.out, hFb, by simp⟩
    · rintro e W' (⟨rfl, hB', W3, hB3, rfl, hh3, hF3, hb3⟩ | ⟨rfl, c, hB', W3, hB3, rfl, rfl, ha, hF3⟩)
      · refine .inl ⟨rfl, fun j hj y hy => ?_, ?_, hF3.put (by omega)⟩
        · by_cases h1 : j < i
          · exact hh j h1 y hy
          · obtain rfl : j = i := by omega
            rw [hx] at hy
            cases hy
            exact hh3
        · simp [World.putObj]
          omega
      · exact .inr ⟨rfl, x.fn, clsOf_at hi hx hh ha, hF3.put (by omega)⟩
  · rintro e W' ⟨hv, (⟨hh, _, hF⟩ | ⟨b, hg, hF⟩)⟩
    · refine ⟨hv, .inl ⟨hF.books, ?_⟩⟩
      have hF8 := hF.put (r' := { r with state := .exhausted }) (by omega)
      generalize W'.putObj (w.heap.size + 4 + 1 + 1) (.loop { r with state := .exhausted }) = W8 at *
      have HF8 := Lib.hid hF8
      have e0 := hF8.b2
      have e1 := hF8.b3
      have z0 : ∀ j, W8.frozen? ⟨w.heap.size + 1 + 1, j, none⟩ = false := fun j => frozen_of_row W8 _ j _ _ e0
      have z1 : ∀ j, W8.frozen? ⟨w.heap.size + 1 + 1 + 1, j, none⟩ = false := fun j => frozen_of_row W8 _ j _ _ e1
      have x0 : W8.cell? ⟨w.heap.size + 1 + 1, 0, none⟩ = some (.bool false) := by simp [World.cell?, e0]
      have x1 : W8.cell? ⟨w.heap.size + 1 + 1 + 1, 0, none⟩ = some (.bool false) := by simp [World.cell?, e1]
      have HG := Lib.hid (clsOf_none hh)
      have HB := Lib.hid hBk
      clear hF8 hF hv hF0 hVW hr hBk hW e0 e1 hh
      go_wp2_with fail
      have HF7 := Lib.hid (HF8.out.store false false (by omega) (by omega))
      generalize (W8.setCell ⟨w.heap.size + 1 + 1, 0, none⟩ (.bool false)).setCell ⟨w.heap.size + 1 + 1 + 1, 0, none⟩ (.bool false) = W7 at *
      have f0 := HF7.out.b2
      have f1 := HF7.out.b3
      have hD := HF7.out.books.calls
      have hoD : ∀ j, j ≠ w.heap.size + 4 + 1 → (W7.putObj (w.heap.size + 4 + 1) (.deferred none)).heap[j]? = W7.heap[j]? := fun j hj => World.putObj_heap_other hj
      have g0 := (hoD (w.heap.size + 1 + 1) (by omega)).trans f0
      have g1 := (hoD (w.heap.size + 1 + 1 + 1) (by omega)).trans f1
      have hkk : Below w.heap.size w (W7.putObj (w.heap.size + 4 + 1) (.deferred none)) := HF7.out.low.trans ⟨rfl, rfl, rfl, by simp [World.putObj], fun k hk => hoD k (by omega)⟩
      refine ⟨by simp, .inl ⟨_, _, rfl, run_takeDeferred hD, ?_⟩⟩
      generalize W7.putObj (w.heap.size + 4 + 1) (.deferred none) = W9 at *
      have y0 : W9.cell? ⟨w.heap.size + 1 + 1, 0, none⟩ = some (.bool false) := by simp [World.cell?, g0]
      have y1 : W9.cell? ⟨w.heap.size + 1 + 1 + 1, 0, none⟩ = some (.bool false) := by simp [World.cell?, g1]
      have hq := HG.out
      exact ⟨.tuple #[.bool false, .bool false], by simp [results, Tryz.results25, go_sem, y0, y1], by simp [fnOf, hq], hkk⟩
    · refine ⟨hv, .inr ⟨.ret, hF.books, ?_⟩⟩
      have hF8 := hF.put (r' := { r with state := .exhausted, pending := some .ret }) (by omega)
      generalize W'.putObj (w.heap.size + 4 + 1 + 1) (.loop { r with state := .exhausted, pending := some .ret }) = W8 at *
      have HF8 := Lib.hid hF8
      have e0 := hF8.b2
      have e1 := hF8.b3
      have HG := Lib.hid hg
      clear hF8 hF hv hF0 hVW hr hBk hW hg
      gi_wp2_with fail
      have hD := HF8.out.books.calls
      have hoD : ∀ j, j ≠ w.heap.size + 4 + 1 → (W8.putObj (w.heap.size + 4 + 1) (.deferred none)).heap[j]? = W8.heap[j]? := fun j hj => World.putObj_heap_other hj
      have g0 := (hoD (w.heap.size + 1 + 1) (by omega)).trans e0
      have g1 := (hoD (w.heap.size + 1 + 1 + 1) (by omega)).trans e1
      have hkk : Below w.heap.size w (W8.putObj (w.heap.size + 4 + 1) (.deferred none)) := HF8.out.low.trans ⟨rfl, rfl, rfl, by simp [World.putObj], fun k hk => hoD k (by omega)⟩
      refine ⟨by simp, .inl ⟨_, _, rfl, run_takeDeferred hD, ?_⟩⟩
      generalize W8.putObj (w.heap.size + 4 + 1) (.deferred none) = W9 at *
      have y0 : W9.cell? ⟨w.heap.size + 1 + 1, 0, none⟩ = some (.bool b) := by simp [World.cell?, g0]
      have y1 : W9.cell? ⟨w.heap.size + 1 + 1 + 1, 0, none⟩ = some (.bool true) := by simp [World.cell?, g1]
      have hq := HG.out
      exact ⟨.tuple #[.bool b, .bool true], by simp [results, Tryz.results25, go_sem, y0, y1], by simp [fnOf, hq], hkk⟩
end Go.Proofs.YtebejlnegalokaaGreatDoor
