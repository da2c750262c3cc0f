/-
  Bodies: by the program.
-/
import Derived.Test.YtebejlnegalokaaGreatDoorProg
import Derived.Test.YtebejlnegalokaaGreatDoorReg
import Derived.WalkKit
import Derived.WalkSpells
import Derived.WalkLawsBesides
import Derived.Lib.Hide
import Derived.Lib.MinMax
import Derived.Deep.QuietTactic
import Derived.BigQuiet
import Derived.OwnWalk
import Derived.Deep.AppendLies
import Derived.KernelRfl
import Derived.Test.YtebejlnegalokaaGreatDoorRegG
import Derived.Test.YtebejlnegalokaaGreatDoorRegZ
import Derived.Test.YtebejlnegalokaaGreatDoorPw2
import Derived.Test.YtebejlnegalokaaGreatDoorPw5
set_option linter.unusedSimpArgs false
set_option linter.unusedVariables false
namespace Go.Proofs.YtebejlnegalokaaGreatDoor
open Go Go.RowKit Go.Maps
open Gz (Tok HoldsT HoldsTT splitRes splitGo splitOf gPar gCur)
open Nz (Nd rightN joinN HoldsN IntN HoldsTs errNodeAt)

/-! ### Parts, plainly -/
theorem splitGo_len (g : ByteArray) : ∀ (l : List Tok) (ds : List Nat) (cur : List Tok), (splitGo g l ds cur).length ≤ l.length + 1 ∧ ∀ p ∈ splitGo g l ds cur, p.length ≤ cur.length + l.length ∧ ∀ x ∈ p, x ∈ cur ∨ x ∈ l
  | [], ds, cur => by
    unfold splitGo
    refine ⟨by simp, fun p hp => ?_⟩
    cases List.mem_singleton.1 hp
    exact ⟨by simp, fun x hx => .inl hx⟩
  | x :: l, [], cur => by
    unfold splitGo
    refine ⟨by simp, fun p hp => ?_⟩
    cases List.mem_singleton.1 hp
    exact ⟨by simp, fun x hx => .inl hx⟩
  | x :: l, d :: ds, cur => by
    unfold splitGo
    split
    · obtain ⟨h1, h2⟩ := splitGo_len g l ds []
      refine ⟨by simp; omega, fun p hp => ?_⟩
      rcases List.mem_cons.1 hp with rfl | hp
      · exact ⟨by simp, fun x hx => .inl hx⟩
      · obtain ⟨a, b⟩ := h2 p hp
        refine ⟨by simp at a ⊢; omega, fun y hy => ?_⟩
        rcases b y hy with h | h
        · simp at h
        · exact .inr (List.mem_cons_of_mem _ h)
    · obtain ⟨h1, h2⟩ := splitGo_len g l ds (cur ++ [x])
      refine ⟨by simp; omega, fun p hp => ?_⟩
      obtain ⟨a, b⟩ := h2 p hp
      refine ⟨by simp at a ⊢; omega, fun y hy => ?_⟩
      rcases b y hy with h | h
      · rcases List.mem_append.1 h with h | h
        · exact .inl h
        · cases List.mem_singleton.1 h
          exact .inr List.mem_cons_self
      · exact .inr (List.mem_cons_of_mem _ h)
theorem splitRes_parts (l : List Tok) (g : ByteArray) : (splitRes l g).1.length ≤ l.length + 1 ∧ ∀ p ∈ (splitRes l g).1, p.length ≤ l.length ∧ ∀ x ∈ p, x ∈ l := by
  unfold splitRes
  split
  · obtain ⟨h1, h2⟩ := splitGo_len g l (Gz.brsOf l).deeps []
    refine ⟨h1, fun p hp => ?_⟩
    obtain ⟨a, b⟩ := h2 p hp
    refine ⟨by simpa using a, fun x hx => ?_⟩
    rcases b x hx with h | h
    · simp at h
    · exact h
  · exact ⟨by simp, fun p hp => by simp at hp⟩
theorem OkL.part {l p : List Tok} (h : OkL l) (hl : p.length ≤ l.length) (hm : ∀ x ∈ p, x ∈ l) : OkL p :=
  ⟨by have := h.len; omega, fun x hx => h.small x (hm x hx), fun x hx => h.kinds x (hm x hx)⟩

/-! ### Names of one's own -/
def bdCells (l : List Bd) : List Value := l.flatMap fun x => [.string x.name, .bool x.fn]
theorem bdCells_length (l : List Bd) : (bdCells l).length = l.length * 2 := by
  induction l with
  | nil => rfl
  | cons x l ih => simp [bdCells] at ih ⊢; omega
theorem bdCells_append (l m : List Bd) : bdCells (l ++ m) = bdCells l ++ bdCells m := by simp [bdCells]
theorem bdCells_get : ∀ (l : List Bd) (k : Nat) (x : Bd), l[k]? = some x → (bdCells l)[k * 2]? = some (.string x.name) ∧ (bdCells l)[k * 2 + 1]? = some (.bool x.fn)
  | [], k, x, h => by simp at h
  | y :: l, 0, x, h => by cases h; exact ⟨rfl, rfl⟩
  | y :: l, k + 1, x, h => by
    obtain ⟨h1, h2⟩ := bdCells_get l k x (by simpa using h)
    have e : bdCells (y :: l) = .string y.name :: .bool y.fn :: bdCells l := rfl
    have e1 : (k + 1) * 2 = k * 2 + 1 + 1 := by omega
    rw [e, e1]
    exact ⟨by simpa using h1, by simpa using h2⟩
theorem bdCells_one (l : List Bd) : ∀ u ∈ bdCells l, u.oneCell' = true := by
  intro u hu
  simp only [bdCells, List.mem_flatMap] at hu
  obtain ⟨x, _, hx⟩ := hu
  simp at hx
  rcases hx with rfl | rfl <;> rfl
theorem holdsE_own {w : World} {base : Nat} {v : Value} {env : List Bd} (h : w.ownsRow base 30 2 v env.length (bdCells env)) : ∃ A c, v = .slice A env.length c ∧ env.length ≤ c ∧ HoldsE w A env := by
  obtain ⟨A, c, rfl, hc, hr⟩ := own_form h
  refine ⟨A, c, rfl, hc, fun k x hx => ?_⟩
  have hk : k < env.length := (List.getElem?_eq_some_iff.1 hx).1
  obtain ⟨g, rfl, _, _, hcell⟩ := hr (by omega)
  obtain ⟨h1, h2⟩ := bdCells_get env k x hx
  exact ⟨g, 0, rfl, hcell _ _ h1, by rw [Nat.add_assoc]; exact hcell _ _ h2⟩
/-- A name is appended to a row of one's own. -/
theorem push_own {W : World} {base : Nat} {v : Value} {env : List Bd} {x : Bd} {g : Nat} (hg : W.heap[g]? = some (.cells #[.string x.name, .bool x.fn] 30 (0, 0))) (hown : W.ownsRow base 30 2 v env.length (bdCells env)) (hl : env.length ≤ 1000000) (hbase : base ≤ W.heap.size) :
    ∃ A c w', (Builtin.append_ #[22, 22] 22 #[v, .slice (some ⟨g, 0, none⟩) 1 1]).run Tryz.prog W = .ok (.slice A (env.length + 1) c) w' ∧ w'.ownsRow base 30 2 (.slice A (env.length + 1) c) (env ++ [x]).length (bdCells (env ++ [x])) ∧ W.grownBy w' v.ownBlock := by
  obtain ⟨i0, hi0, hz0, hz1, hz2⟩ := info_parts infoBd
  have e : bdCells (env ++ [x]) = bdCells env ++ [.string x.name, .bool x.fn] := bdCells_append env [x]
  obtain ⟨v', w', hr, ho, hgr, _, _⟩ := run_append_own_at (P := Tryz.prog) W base 22 22 30 i0 _ 2 24 Tryz.underlying22 hi0 hz0 hz1 hz2 rfl (by decide) v env.length (bdCells env) hown ⟨g, 0, none⟩ 1 1 [.string x.name, .bool x.fn] (by simp)
    (World.news_of_block (cs := #[.string x.name, .bool x.fn]) (t := 30) (fr := (0, 0)) hg) (by simp [Value.oneCell']) (by unfold maxLen; omega) (by omega) hbase
  obtain ⟨A, c, rfl, _, _⟩ := own_form ho
  exact ⟨A, c, w', hr, by rw [e, List.length_append, List.length_singleton]; exact ho, hgr⟩
/-- A name is appended to a slice that is full. -/
theorem push_first {W : World} {base : Nat} {A : Option Addr} {env : List Bd} {x : Bd} {g : Nat} (hg : W.heap[g]? = some (.cells #[.string x.name, .bool x.fn] 30 (0, 0))) (hE : HoldsE W A env) (hl : env.length ≤ 1000000) (hbase : base ≤ W.heap.size) :
    ∃ A2 c w', (Builtin.append_ #[22, 22] 22 #[.slice A env.length env.length, .slice (some ⟨g, 0, none⟩) 1 1]).run Tryz.prog W = .ok (.slice A2 (env.length + 1) c) w' ∧ w'.ownsRow base 30 2 (.slice A2 (env.length + 1) c) (env ++ [x]).length (bdCells (env ++ [x])) ∧ W.grownBy w' none := by
  obtain ⟨i0, hi0, hz0, hz1, hz2⟩ := info_parts infoBd
  have e : bdCells (env ++ [x]) = bdCells env ++ [.string x.name, .bool x.fn] := bdCells_append env [x]
  cases A with
  | none =>
    have hn : env = [] := by
      cases env with
      | nil => rfl
      | cons y l =>
        obtain ⟨b, off, h, _⟩ := hE 0 y rfl
        cases h
    subst hn
    exact push_own hg (World.ownsRow_nil _ _ _ _) hl hbase
  | some ad =>
    have holds : ∀ j u, (bdCells env)[j]? = some u → W.cell? (ad.add j) = some u := fun j u hu => by
      have hj : j < env.length * 2 := by rw [← bdCells_length]; exact (List.getElem?_eq_some_iff.1 hu).1
      have hk : j / 2 < env.length := by omega
      obtain ⟨b, off, h, c0, c1⟩ := hE (j / 2) _ (List.getElem?_eq_getElem hk)
      cases h
      obtain ⟨g0, g1⟩ := bdCells_get env (j / 2) _ (List.getElem?_eq_getElem hk)
      have ea : (⟨b, off, none⟩ : Addr).add j = ⟨b, off + j, none⟩ := by
        unfold Addr.add
        split
        · rename_i h; subst h; rfl
        · rfl
      rw [ea]
      rcases Nat.mod_two_eq_zero_or_one j with hm | hm
      · have ej : j / 2 * 2 = j := by omega
        rw [ej] at g0 c0
        rw [hu] at g0
        cases g0
        exact c0
      · have ej : j / 2 * 2 + 1 = j := by omega
        rw [ej] at g1
        have ej2 : off + j / 2 * 2 + 1 = off + j := by omega
        rw [ej2] at c1
        rw [hu] at g1
        cases g1
        exact c1
    obtain ⟨v', w', hr, ho, hgr⟩ := run_append_arg_grows (P := Tryz.prog) (w := W) 22 22 30 i0 _ 2 24 Tryz.underlying22 hi0 hz0 hz1 hz2 rfl (by decide) ad env.length env.length (bdCells env) (bdCells_length env) holds ⟨g, 0, none⟩ 1 1 [.string x.name, .bool x.fn] (by simp)
      (World.news_of_block (cs := #[.string x.name, .bool x.fn]) (t := 30) (fr := (0, 0)) hg) (by omega) (by unfold maxLen; omega) (by omega)
    obtain ⟨A2, c, rfl, _, _⟩ := own_form ho
    exact ⟨A2, c, w', hr, by rw [e, List.length_append, List.length_singleton]; exact Nz.own_mono ho hbase, hgr⟩

/-! ### Trees of one's own -/
/-- The slice kv, one's own, holds the trees ks, each of one's own. -/
def KidsAt (w : World) (base : Nat) (kv : Value) (ks : List (List Nd)) : Prop :=
  ∃ Ls : List (Value × List (Nd × Value)), w.ownsRow base 23 1 kv ks.length (Ls.map Prod.fst) ∧ (∀ p ∈ Ls, Nz.HasN w base p.1 p.2) ∧ Ls.map (fun p => p.2.map Prod.fst) = ks
theorem KidsAt.nil (w : World) (base : Nat) : KidsAt w base (.slice none 0 0) [] := ⟨[], World.ownsRow_nil _ _ _ _, fun p hp => by simp at hp, rfl⟩
theorem KidsAt.below {w w' : World} {base : Nat} {kv : Value} {ks : List (List Nd)} (h : KidsAt w base kv ks) (hb : Below w.heap.size w w') : KidsAt w' base kv ks := by
  obtain ⟨Ls, h1, h2, h3⟩ := h
  exact ⟨Ls, Gz.own_below h1 hb, fun p hp => (h2 p hp).below hb, h3⟩
theorem has_kept {w w' : World} {base b2 : Nat} {v u : Value} {L : List (Nd × Value)} {e : TypeId} {k n : Nat} {xs : List Value} (h : Nz.HasN w base v L) (hg : w.grownBy w' u.ownBlock) (hu : w.ownsRow b2 e k u n xs) (h1 : Nz.tN ≠ e) (h2 : Nz.tI ≠ e) : Nz.HasN w' base v L :=
  ⟨h.row.kept hg (Nz.own_apart h.row hu h1), fun p hp => (h.kids p hp).kept hg (Nz.own_apart (h.kids p hp) hu h2)⟩
theorem KidsAt.kept {w w' : World} {base b2 : Nat} {kv u : Value} {ks : List (List Nd)} {n : Nat} {xs : List Value} (h : KidsAt w base kv ks) (hg : w.grownBy w' u.ownBlock) (hu : w.ownsRow b2 30 2 u n xs) : KidsAt w' base kv ks := by
  obtain ⟨Ls, h1, h2, h3⟩ := h
  exact ⟨Ls, h1.kept hg (Nz.own_apart h1 hu (by decide)), fun p hp => has_kept (h2 p hp) hg hu (by decide) (by decide), h3⟩
theorem KidsAt.keptNone {w w' : World} {base : Nat} {kv : Value} {ks : List (List Nd)} (h : KidsAt w base kv ks) (hg : w.grownBy w' none) : KidsAt w' base kv ks := by
  obtain ⟨Ls, h1, h2, h3⟩ := h
  exact ⟨Ls, h1.kept hg (by cases kv.ownBlock <;> simp), fun p hp => ⟨(h2 p hp).row.kept hg (by cases p.1.ownBlock <;> simp), fun q hq => ((h2 p hp).kids q hq).kept hg (by cases q.2.ownBlock <;> simp)⟩, h3⟩
theorem KidsAt.setT {w : World} {base T : Nat} {kv : Value} {ks : List (List Nd)} {cs : Array Value} {fr : Nat × Nat} (h : KidsAt w base kv ks) (hT : w.heap[T]? = some (.cells cs 60 fr)) (o : Nat) (u : Value) : KidsAt (w.setCell ⟨T, o, none⟩ u) base kv ks := by
  obtain ⟨Ls, h1, h2, h3⟩ := h
  exact ⟨Ls, ownsRow_setCell_other h1 (fun e => Nz.own_apart_cells h1 hT (by decide) e) _, fun p hp => (h2 p hp).setT hT (by decide) (by decide) o u, h3⟩
/-- A tree is appended. -/
theorem KidsAt.push {W : World} {base : Nat} {kv : Value} {ks : List (List Nd)} {B : Option Addr} {t : List Nd} {d : Nat} {L : List (Nd × Value)} {g : Nat} (hg : W.heap[g]? = some (.cells #[.slice B t.length d] 23 (0, 0))) (h : KidsAt W base kv ks) (hN : Nz.HasN W base (.slice B t.length d) L) (hM : L.map Prod.fst = t) (hl : ks.length ≤ 1000) (hbase : base ≤ W.heap.size) :
    ∃ A c w', (Builtin.append_ #[115, 115] 115 #[kv, .slice (some ⟨g, 0, none⟩) 1 1]).run Tryz.prog W = .ok (.slice A (ks.length + 1) c) w' ∧ KidsAt w' base (.slice A (ks.length + 1) c) (ks ++ [t]) ∧ W.grownBy w' kv.ownBlock ∧ ∃ n xs, W.ownsRow base 23 1 kv n xs := by
  obtain ⟨Ls, h1, h2, h3⟩ := h
  obtain ⟨A, c, w', hr, ho, hgr⟩ := push_kid hg h1 (by omega) hbase
  refine ⟨A, c, w', hr, ⟨Ls ++ [(.slice B t.length d, L)], ?_, ?_, ?_⟩, hgr, _, _, h1⟩
  · rw [List.length_append, List.length_singleton, List.map_append]
    exact ho
  · intro p hp
    rcases List.mem_append.1 hp with hp | hp
    · exact has_kept (h2 p hp) hgr h1 (by decide) (by decide)
    · cases List.mem_singleton.1 hp
      exact has_kept hN hgr h1 (by decide) (by decide)
  · rw [List.map_append, h3]
    simp [hM]
/-- What a join of them needs. -/
theorem KidsAt.holds {w : World} {base : Nat} {kv : Value} {ks : List (List Nd)} (h : KidsAt w base kv ks) : ∃ A c, kv = .slice A ks.length c ∧ HoldsTs w A ks := by
  obtain ⟨Ls, h1, h2, h3⟩ := h
  obtain ⟨A, c, rfl, hc, hr⟩ := own_form h1
  refine ⟨A, c, rfl, fun k t hk => ?_⟩
  have hkl : k < ks.length := (List.getElem?_eq_some_iff.1 hk).1
  obtain ⟨g, rfl, _, _, hcell⟩ := hr (by omega)
  rw [← h3, List.getElem?_map] at hk
  cases hp : Ls[k]? with
  | none => rw [hp] at hk; cases hk
  | some p =>
    rw [hp] at hk
    cases hk
    have hN := h2 p (List.mem_of_getElem? hp)
    obtain ⟨B, d, he, hh, hd⟩ := hN.holds
    refine ⟨g, 0, rfl, B, d, ?_, hh, by rw [List.length_map]; exact hd⟩
    rw [hcell k p.1 (by rw [List.getElem?_map, hp]; rfl), he, List.length_map]
end Go.Proofs.YtebejlnegalokaaGreatDoor
/-
  A body's tree: by the program.
-/
namespace Go.Proofs.YtebejlnegalokaaGreatDoor
open Go Go.RowKit Go.Maps
open Gz (Tok HoldsT HoldsTT splitRes splitGo splitOf gPar gCur)
open Nz (Nd rightN joinN HoldsN IntN HoldsTs errNodeAt)

def bodyFin (r : Except Bool (List (List Nd))) : PR := match r with
  | .error e => .error e
  | .ok ks => joinP 11 noB ks
/-- What q.env is: what it began as, or a row of its own. -/
def EnvAt (Q : Nat) (A0 : Option Addr) (env0 : List Bd) (W : World) (v : Value) (env : List Bd) : Prop :=
  (v = .slice A0 env0.length env0.length ∧ env = env0) ∨ W.ownsRow (Q + 1) 30 2 v env.length (bdCells env)
/-- Where the loop of a body stands. -/
structure BodyAt (p : Pz) (w1 : World) (A0 : Option Addr) (env0 : List Bd) (parts : List (List Tok)) (R : PR) (k : Nat) (kv : Value) (wr : World) : Prop where
  low : Below w1.heap.size w1 wr
  size : w1.heap.size < wr.heap.size
  rest : ∃ env ks A c, wr.heap[w1.heap.size]? = some (.cells #[.slice A env.length c, .bool true] 60 (0, 0)) ∧ EnvAt w1.heap.size A0 env0 wr (.slice A env.length c) env ∧ env.length ≤ env0.length + k ∧
    KidsAt wr w1.heap.size kv ks ∧ ks.length = k ∧ (∀ t ∈ ks, OkT t) ∧ R = bodyFin (bodyGo p env ks (parts.drop k))

theorem own_lt {w : World} {base : Nat} {e : TypeId} {k : Nat} {v : Value} {n : Nat} {xs : List Value} (h : w.ownsRow base e k v n xs) : ∀ j, v.ownBlock = some j → j < w.heap.size := by
  intro j hj
  rcases h.2 with ⟨rfl, _⟩ | ⟨g, cap, cur, rfl, _, hrow, _⟩
  · simp [Value.ownBlock] at hj
  · simp [Value.ownBlock] at hj
    subst hj
    exact (Array.getElem?_eq_some_iff.1 hrow).1
theorem EnvAt.holds {Q : Nat} {A0 : Option Addr} {env0 : List Bd} {W : World} {A : Option Addr} {env : List Bd} {c : Nat} (h : EnvAt Q A0 env0 W (.slice A env.length c) env) (h0 : HoldsE W A0 env0) : HoldsE W A env ∧ env.length ≤ c := by
  rcases h with ⟨e, rfl⟩ | h
  · cases e
    exact ⟨h0, Nat.le_refl _⟩
  · obtain ⟨A', c', e, h1, h2⟩ := holdsE_own h
    cases e
    exact ⟨h2, h1⟩
theorem EnvAt.push {Q : Nat} {A0 : Option Addr} {env0 : List Bd} {W : World} {A : Option Addr} {env : List Bd} {c : Nat} (h : EnvAt Q A0 env0 W (.slice A env.length c) env) (h0 : HoldsE W A0 env0) : (∃ A', Value.slice A env.length c = .slice A' env.length env.length ∧ HoldsE W A' env) ∨ W.ownsRow (Q + 1) 30 2 (.slice A env.length c) env.length (bdCells env) := by
  rcases h with ⟨e, rfl⟩ | h
  · exact .inl ⟨A0, e, h0⟩
  · exact .inr h
theorem EnvAt.below {Q : Nat} {A0 : Option Addr} {env0 : List Bd} {W W' : World} {v : Value} {env : List Bd} (h : EnvAt Q A0 env0 W v env) (hb : Below W.heap.size W W') : EnvAt Q A0 env0 W' v env := by
  rcases h with h | h
  · exact .inl h
  · exact .inr (Gz.own_below h hb)
/-- The kids' append, the last thing of a round. -/
theorem body_next {p : Pz} {w1 : World} {A0 : Option Addr} {env0 : List Bd} {parts : List (List Tok)} {R : PR} {k : Nat} {W w9 : World} {kv kv' : Value} {env : List Bd} {ks : List (List Nd)} {t : List Nd} {A : Option Addr} {c n : Nat} {xs : List Value}
    (low : Below w1.heap.size w1 W) (size : w1.heap.size < W.heap.size) (row : W.heap[w1.heap.size]? = some (.cells #[.slice A env.length c, .bool true] 60 (0, 0))) (hE : EnvAt w1.heap.size A0 env0 W (.slice A env.length c) env) (he : env.length ≤ env0.length + (k + 1))
    (own : W.ownsRow w1.heap.size 23 1 kv n xs) (hg : W.grownBy w9 kv.ownBlock) (hK : KidsAt w9 w1.heap.size kv' (ks ++ [t])) (hk : ks.length = k) (hkO : ∀ t ∈ ks, OkT t) (hO : OkT t) (hR : R = bodyFin (bodyGo p env (ks ++ [t]) (parts.drop (k + 1)))) :
    BodyAt p w1 A0 env0 parts R (k + 1) kv' w9 := by
  have hne : kv.ownBlock ≠ some w1.heap.size := Nz.own_apart_cells own row (by decide)
  refine ⟨low.grown hg low.size (Gz.ownBlock_ge own), Nat.lt_of_lt_of_le size hg.size, env, ks ++ [t], A, c, (hg.block _ size (fun e => hne e.symm)).trans row, ?_, he, hK, by rw [List.length_append, hk]; rfl, fun u hu => ?_, hR⟩
  · rcases hE with h | h
    · exact .inl h
    · exact .inr (h.kept hg (Nz.own_apart h own (by decide)))
  · rcases List.mem_append.1 hu with h | h
    · exact hkO u h
    · cases List.mem_singleton.1 h
      exact hO

/-- The names' append, and its store. -/
theorem body_env {A0 : Option Addr} {env0 : List Bd} {w1 w2 W4 W5 : World} {Ak : Option Addr} {env : List Bd} {ck bb g : Nat} {x : Bd} {kv : Value} {ks : List (List Nd)} {v : Value} {L : List (Nd × Value)}
    (low : Below w1.heap.size w1 w2) (size : w1.heap.size < w2.heap.size) (row : w2.heap[w1.heap.size]? = some (.cells #[.slice Ak env.length ck, .bool true] 60 (0, 0)))
    (hE : EnvAt w1.heap.size A0 env0 w2 (.slice Ak env.length ck) env) (hK : KidsAt w2 w1.heap.size kv ks) (hN : Nz.HasN w2 w1.heap.size v L) (h0 : HoldsE w1 A0 env0) (hl : env.length ≤ 1000000)
    (h4 : Below w2.heap.size w2 W4) (h45 : Below W4.heap.size W4 W5) (hbb : W4.heap[bb]? = some (.cells #[.string x.name, .bool x.fn] 30 (0, 0))) (hb2 : w2.heap.size ≤ bb)
    (hg : W5.heap[g]? = some (.cells #[.string x.name, .bool x.fn] 30 (0, 0))) :
    ∃ A9 c9 w6, (Builtin.append_ #[22, 22] 22 #[.slice Ak env.length ck, .slice (some ⟨g, 0, none⟩) 1 1]).run Tryz.prog W5 = .ok (.slice A9 (env.length + 1) c9) w6 ∧
      (w6.cell? ⟨w1.heap.size, 0, none⟩ = some (.slice Ak env.length ck) ∧ w6.cell? ⟨bb, 0, none⟩ = some (.string x.name) ∧ w6.cell? ⟨bb, 1, none⟩ = some (.bool x.fn)) ∧ (∀ j, w6.frozen? ⟨w1.heap.size, j, none⟩ = false) ∧
      (Below w1.heap.size w1 (w6.setCell ⟨w1.heap.size, 0, none⟩ (.slice A9 (env.length + 1) c9)) ∧ w1.heap.size < (w6.setCell ⟨w1.heap.size, 0, none⟩ (.slice A9 (env.length + 1) c9)).heap.size ∧
        (w6.setCell ⟨w1.heap.size, 0, none⟩ (.slice A9 (env.length + 1) c9)).heap[w1.heap.size]? = some (.cells #[.slice A9 (env ++ [x]).length c9, .bool true] 60 (0, 0)) ∧
        EnvAt w1.heap.size A0 env0 (w6.setCell ⟨w1.heap.size, 0, none⟩ (.slice A9 (env.length + 1) c9)) (.slice A9 (env ++ [x]).length c9) (env ++ [x]) ∧
        KidsAt (w6.setCell ⟨w1.heap.size, 0, none⟩ (.slice A9 (env.length + 1) c9)) w1.heap.size kv ks ∧ Nz.HasN (w6.setCell ⟨w1.heap.size, 0, none⟩ (.slice A9 (env.length + 1) c9)) w1.heap.size v L) := by
  have s4 := h4.size
  have s5 := h45.size
  have hbl : bb < W4.heap.size := (Array.getElem?_eq_some_iff.1 hbb).1
  have h25 : Below w2.heap.size w2 W5 := h4.trans (h45.mono s4)
  have low5 := low.trans (h25.mono (Nat.le_of_lt size))
  have row5 := (h25.block _ size).trans row
  have hK5 := hK.below h25
  have hN5 := hN.below h25
  have hbb5 := (h45.block _ hbl).trans hbb
  have hlen : (env ++ [x]).length = env.length + 1 := by simp
  obtain ⟨A9, c9, w6, row6, hrun, hown, hgr, hway⟩ : ∃ A9 c9 w6 row6, (Builtin.append_ #[22, 22] 22 #[.slice Ak env.length ck, .slice (some ⟨g, 0, none⟩) 1 1]).run Tryz.prog W5 = .ok (.slice A9 (env.length + 1) c9) w6 ∧
      w6.ownsRow (w1.heap.size + 1) 30 2 (.slice A9 (env.length + 1) c9) (env ++ [x]).length (bdCells (env ++ [x])) ∧ W5.grownBy w6 row6 ∧ (row6 = none ∨ (row6 = (Value.slice Ak env.length ck).ownBlock ∧ row6 ≠ some bb ∧ W5.ownsRow (w1.heap.size + 1) 30 2 (.slice Ak env.length ck) env.length (bdCells env))) := by
    rcases hE with ⟨e, rfl⟩ | h
    · cases e
      obtain ⟨A9, c9, w6, h1, h2, h3⟩ := push_first (base := w1.heap.size + 1) hg (h0.below low5) hl (by omega)
      exact ⟨A9, c9, w6, none, h1, h2, h3, .inl rfl⟩
    · have ho5 := Gz.own_below h h25
      obtain ⟨A9, c9, w6, h1, h2, h3⟩ := push_own hg ho5 hl (by omega)
      refine ⟨A9, c9, w6, _, h1, h2, h3, .inr ⟨rfl, fun e => ?_, ho5⟩⟩
      have := (own_lt h _ e)
      omega
  have hne : row6 ≠ some w1.heap.size := by
    rcases hway with rfl | ⟨rfl, _, ho⟩
    · simp
    · exact Nz.own_apart_cells ho row5 (by decide)
  have row6' := (hgr.block _ (by omega) (fun e => hne e.symm)).trans row5
  have hbb6 := (hgr.block bb (by omega) (fun e => by
    rcases hway with rfl | ⟨_, h, _⟩
    · cases e
    · exact h e.symm)).trans hbb5
  have hK6 : KidsAt w6 w1.heap.size kv ks := by
    rcases hway with rfl | ⟨rfl, _, ho⟩
    · exact hK5.keptNone hgr
    · exact hK5.kept hgr ho
  have hN6 : Nz.HasN w6 w1.heap.size v L := by
    rcases hway with rfl | ⟨rfl, _, ho⟩
    · exact ⟨hN5.row.kept hgr (by cases v.ownBlock <;> simp), fun q hq => (hN5.kids q hq).kept hgr (by cases q.2.ownBlock <;> simp)⟩
    · exact has_kept hN5 hgr ho (by decide) (by decide)
  have low6 : Below w1.heap.size w1 w6 := low5.grown hgr low5.size (fun j e => by
    rcases hway with rfl | ⟨rfl, _, ho⟩
    · cases e
    · have := Gz.ownBlock_ge ho j e
      omega)
  have s6 := hgr.size
  refine ⟨A9, c9, w6, hrun, ⟨by simp [World.cell?, row6'], by simp [World.cell?, hbb6], by simp [World.cell?, hbb6]⟩, fun j => frozen_of_row w6 _ j _ _ row6', low6.setCell (p := ⟨w1.heap.size, 0, none⟩) (Nat.le_refl _) _, by simp; omega, ?_, ?_, hK6.setT row6' _ _, hN6.setT row6' (by decide) (by decide) _ _⟩
  · rw [heap_setCell_same w6 w1.heap.size 0 _ _ _ row6', hlen]
    simp
  · refine .inr ?_
    rw [hlen] at hown ⊢
    exact ownsRow_setCell_other hown (fun e => Nz.own_apart_cells hown row6' (by decide) e) _

set_option maxRecDepth 100000 in
set_option maxHeartbeats 16000000 in
theorem body_p (a b : Addr) (p : Pz) (pb : Nat) (A : Option Addr) (c' : Nat) (env : List Bd) (inner : Bool) (TA : Option Addr) (c : Nat) (l : List Tok) (w : World)
    (HS : KOk a b l.length 41 p.stmt)
    (hl : OkL l) (h98 : l.length ≤ 98) (hn : env.length + 100 * l.length + 100 ≤ 50000) (hc : l.length ≤ c) (hh : HoldsT w TA l) (hp : Par w pb A c' env inner) (hw : WOk a b w) :
    Calls Tryz.prog 81 #[.pointer (some ⟨pb, 0, none⟩), .slice TA l.length c] w (GivesP (bodyP p env l) b · w ·) := by
  have hpp := splitRes_parts l gDia
  have HSp := Lib.hid (Gz.gsplit_any TA c l gDia w hl.mild hc hh hw.listed)
  obtain ⟨R, hR⟩ : ∃ R, R = bodyP p env l := ⟨_, rfl⟩
  rw [← hR]
  have hR2 : R = bodyFin (bodyGo p env [] (splitRes l gDia).1) := by rw [hR]; rfl
  have HStm := Lib.hid (fun (q : List Tok) (hq : q ∈ (splitRes l gDia).1) pb A c' env TA d W (h0 : env.length + 100 * q.length ≤ 50000) (h1 : q.length ≤ d) (h2 : HoldsT W TA q) (h3 : Par W pb A c' env true) (h4 : WOk a b W) =>
    HS pb A c' env true q TA d W (hpp.2 q hq).1 h0 (hl.part (hpp.2 q hq).1 (hpp.2 q hq).2) h1 h2 h3 h4)
  have HPl := Lib.hid (fun q (hq : q ∈ (splitRes l gDia).1) => (hpp.2 q hq).1)
  have hpl : (splitRes l gDia).1.length ≤ 99 := by have := hpp.1; omega
  generalize (splitRes l gDia).2 = code at *
  generalize (splitRes l gDia).1 = parts at *
  have HR := Lib.hid hR2
  have HP := Lib.hid hp
  have HW := Lib.hid hw
  unfold gDia at HSp
  clear hh hp hw hl hpp hR hR2 HS
  go_enter Tryz.func81, Tryz.ntmps81
  go_wp2_with fail
  refine HSp.out.mono ?_
  rintro e w1 ⟨B, d, rfl, hTT, hb⟩
  have HTT := Lib.hid hTT
  have HB1 := Lib.hid hb
  have HP1 := Lib.hid (HP.out.below hb)
  have HW1 := Lib.hid (HW.out.below hb)
  obtain ⟨p0, p1, p2, p3, p4⟩ := HP1.out
  have HE1 := Lib.hid p2
  have k0 : (0 : Int) ≤ (env.length : Int) := by omega
  have k1 : (env.length : Int) ≤ (c' : Int) := by omega
  clear hTT hb HSp p2
  go_wp2_with fail
  refine wp_region_ord (S := fun w' => w'.cell? ⟨pb, 0, none⟩ = some (.slice A env.length c')) [0, 1, 2, 3, 4, 5, 6, 7, 8, 9, 10, 11, 12, 13, 14, 15, 16, 17, 18, 19] [20, 21] (by kernel_rfl) (by kernel_rfl) (fun _ _ _ _ _ h => h) p0 ?_
  simp only [pick, List.filterMap_cons, List.filterMap_nil, List.getElem?_toArray, List.getElem?_cons_zero, List.getElem?_cons_succ]
  repeat (refine wpHead_step (v := ?_) rfl ?_ ?_; rotate_left; (focus (rintro w1 s0; go_simp; try with_reducible rfl)); simp only [Act.put, List.setIfInBounds_toArray, List.set_cons_zero, List.set_cons_succ])
  refine wpHead_nil ?_
  have hbQ := below_new w1 (.cells #[.slice A env.length env.length, .bool true] 60)
  have q0 := (hbQ.cell (p := ⟨pb, 0, none⟩) (cell_lt p0)).trans p0
  have hrQ := heap_alloc_new w1 (.cells #[.slice A env.length env.length, .bool true] 60)
  have HSt := Lib.hid (show BodyAt p w1 A env parts R 0 (.slice none 0 0) ((w1.alloc (.cells #[.slice A env.length env.length, .bool true] 60)).drew) from
    ⟨hbQ.drew, by simp, env, [], A, env.length, hrQ, .inl ⟨rfl, rfl⟩, by omega, KidsAt.nil _ _, rfl, fun t ht => by simp at ht, HR.out⟩)
  clear hbQ hrQ
  refine wpTail_step rfl (fun K hK => ?_)
  go_wp2_with fail
  refine hK _ _ q0 ?_
  clear hK K
  try simp only [Act.put, List.setIfInBounds_toArray, List.set_cons_zero, List.set_cons_succ]
  refine wpTail_step rfl (fun K hK => ?_)
  go_wp2_with fail
  refine hK _ _ q0 ?_
  clear hK K
  try simp only [Act.put, List.setIfInBounds_toArray, List.set_cons_zero, List.set_cons_succ]
  refine wpTail_nil ?_
  go_wp2_with fail
  have hB : ∃ b3 o3, parts = [] ∨ B = some ⟨b3, o3, none⟩ := by
    cases hp0 : parts with
    | nil => exact ⟨0, 0, .inl rfl⟩
    | cons q qs =>
      obtain ⟨b3, o3, _, _, e, _⟩ := HTT.out 0 q (by rw [hp0]; rfl)
      exact ⟨b3, o3, .inr e⟩
  go_loopw [9, 44] (fun kv iv wr => ∃ (k : Nat), iv = .int .i64 k ∧ k ≤ parts.length ∧ Hid (BodyAt p w1 A env parts R k kv wr)) (fun _ iv _ => parts.length - (intOf iv).toNat)
  case atStart => exact ⟨0, rfl, Nat.zero_le _, HSt⟩
  case round =>
    obtain ⟨k, rfl, hk, HBo⟩ := hrel
    obtain ⟨hlow, hsz, envk, ks, Ak, ck, hrow, hEnv, hel, hK, hkl, hkO, hRk⟩ := HBo.out
    obtain ⟨hE, hck⟩ := hEnv.holds (HE1.out.below hlow)
    by_cases hlt : k < parts.length
    · have i1 : (k : Int) < (parts.length : Int) := by omega
      have i0 : (0 : Int) ≤ (k : Int) := by omega
      have gk := List.getElem?_eq_getElem hlt
      have hmem := List.getElem_mem hlt
      obtain ⟨b3, o3, Bq, cq, rfl, hcq, hqc, hHq⟩ := HTT.out k _ gk
      have hd : parts.drop k = parts[k] :: parts.drop (k + 1) := List.drop_eq_getElem_cons hlt
      rw [hd] at hRk
      have hRk2 : R = bodyFin (match p.stmt envk true parts[k] with
        | .error e => .error e
        | .ok t => bodyGo p (match bindsN t with | some b => envk ++ [b] | none => envk) (ks ++ [t]) (parts.drop (k + 1))) := by rw [hRk]; rfl
      have hql := HPl.out _ hmem
      generalize parts[k] = q at *
      have c3 := (hlow.cell (p := ⟨b3, o3 + k, none⟩) (cell_lt hcq)).trans hcq
      have hPq : Par wr w1.heap.size Ak ck envk true := ⟨by simp [World.cell?, hrow], by simp [World.cell?, hrow], hE, hck, by omega⟩
      have HC := Lib.hid (HStm.out q hmem w1.heap.size Ak ck envk Bq cq wr (by omega) hqc (hHq.below hlow) hPq (HW1.out.below hlow))
      have HR1 := Lib.hid hRk2
      have HRow := Lib.hid hrow
      have HEnv := Lib.hid hEnv
      have HE := Lib.hid hE
      have HK := Lib.hid hK
      have HkO := Lib.hid hkO
      have HLow := Lib.hid hlow
      clear hrow hEnv hE hK hkO hRk hRk2 hd gk hmem hcq hHq hPq hlow HBo
      generalize p.stmt envk true q = rs at *
      go_wp2_with fail
      refine HC.out.mono ?_
      intro e w2 hG
      have HLow2 := Lib.hid (HLow.out.trans (hG.1.mono (by omega)))
      have HRow2 := Lib.hid ((hG.1.block _ hsz).trans HRow.out)
      have HK2 := Lib.hid (HK.out.below hG.1)
      have HEnv2 := Lib.hid (HEnv.out.below hG.1)
      have hsz2 : w1.heap.size < w2.heap.size := by have := hG.1.size; omega
      rcases hG.ways with ⟨t, B2, d2, L, rfl, rfl, hN, hM, hO⟩ | ⟨y, rfl, rfl⟩
      · have HN := Lib.hid (hN.mono (show w1.heap.size ≤ wr.heap.size by omega))
        obtain ⟨hT, hd⟩ := has_holds hN hM
        have HBi := Lib.hid (binds_any t hO.int B2 d2 w2 hT)
        have HO := Lib.hid hO
        have HR2 : Hid (R = bodyFin (bodyGo p (match bindsN t with | some b => envk ++ [b] | none => envk) (ks ++ [t]) (parts.drop (k + 1)))) := Lib.hid HR1.out
        clear hG hN hO hT HC HR1 HRow HE HK HEnv HLow
        cases hbn : bindsN t with
        | none =>
          rw [hbn] at HBi HR2
          simp only [Option.getD_none, Option.isSome_none] at HBi HR2
          clear hbn
          go_wp2_with fail
          refine HBi.out.mono ?_
          rintro e w3 ⟨rfl, hb3⟩
          have hb4 := hb3.trans ((below_new w3 (.cells #[.string noB, .bool false] 30)).mono hb3.size)
          unfold noB at *
          obtain ⟨W4, hW4⟩ : ∃ W4, W4 = w3.alloc (.cells #[.string ⟨#[]⟩, .bool false] 30) := ⟨_, rfl⟩
          rw [← hW4] at hb4
          have HLow4 := Lib.hid (HLow2.out.trans (hb4.mono (by omega)))
          have HRow4 := Lib.hid ((hb4.block _ hsz2).trans HRow2.out)
          have HEnv4 := Lib.hid (HEnv2.out.below hb4)
          have HK4 := Lib.hid (HK2.out.below hb4)
          have HN4 := Lib.hid (HN.out.below hb4)
          have hsz4 : w1.heap.size < W4.heap.size := by have := hb4.size; omega
          have HW4 := Lib.hid hW4
          clear hb3 hb4 HLow2 HRow2 HEnv2 HK2 HN HBi
          subst hW4
          have hsz5 : w1.heap.size < w3.heap.size + 1 := by simpa using hsz4
          have hbK := below_new (w3.alloc (.cells #[.string ⟨#[]⟩, .bool false] 30)) (.cells #[.slice B2 t.length d2] 23)
          obtain ⟨A9, c9, w9, hrun, hK9, hg9, n9, xs9, hown9⟩ := KidsAt.push (W := (w3.alloc (.cells #[.string ⟨#[]⟩, .bool false] 30)).alloc (.cells #[.slice B2 t.length d2] 23)) (g := (w3.alloc (.cells #[.string ⟨#[]⟩, .bool false] 30)).heap.size) (heap_alloc_new _ _) (HK4.out.below hbK) (HN4.out.below hbK) hM (by omega) (by simp; omega)
          rw [hkl] at hrun hK9
          simp only [World.size_alloc] at hrun
          have HNx := Lib.hid (body_next (k := k) (p := p) (parts := parts) (R := R) (HLow4.out.trans (hbK.mono (by omega))) (by simp; omega) ((hbK.block _ (by omega)).trans HRow4.out) (HEnv4.out.below hbK) (by omega) hown9 hg9 hK9 hkl HkO.out HO.out HR2.out)
          clear hbK hK9 hg9 hown9
          go_wp2_with (at_builtin; go_must (refine Nz.wpList_append_run rfl _ _ 115 115 rfl rfl rfl hrun ?_))
          go_roundw
          case rel => exact ⟨k + 1, by go_num, by omega, HNx⟩
          case measure => simp [intOf]; omega
        | some bd =>
          rw [hbn] at HBi HR2
          simp only [Option.getD_some, Option.isSome_some] at HBi HR2
          clear hbn
          go_wp2_with fail
          refine HBi.out.mono ?_
          rintro e w3 ⟨rfl, hb3⟩
          have hb4 := hb3.trans ((below_new w3 (.cells #[.string bd.name, .bool bd.fn] 30)).mono hb3.size)
          have hb45 := (below_new (w3.alloc (.cells #[.string bd.name, .bool bd.fn] 30)) (.cells #[.string bd.name, .bool bd.fn] 30)).drew
          have hbb := heap_alloc_new w3 (.cells #[.string bd.name, .bool bd.fn] 30)
          have hbc := heap_alloc_new (w3.alloc (.cells #[.string bd.name, .bool bd.fn] 30)) (.cells #[.string bd.name, .bool bd.fn] 30)
          simp only [World.size_alloc] at hbc
          obtain ⟨W4, hW4⟩ : ∃ W4, W4 = w3.alloc (.cells #[.string bd.name, .bool bd.fn] 30) := ⟨_, rfl⟩
          obtain ⟨W5, hW5⟩ : ∃ W5, W5 = ((w3.alloc (.cells #[.string bd.name, .bool bd.fn] 30)).alloc (.cells #[.string bd.name, .bool bd.fn] 30)).drew := ⟨_, rfl⟩
          have hbc2 : W5.heap[w3.heap.size + 1]? = some (.cells #[.string bd.name, .bool bd.fn] 30 (0, 0)) := by rw [hW5]; exact hbc
          rw [← hW5, ← hW4] at hb45
          rw [← hW4] at hb4 hbb
          have hrow4 := (hb4.block _ hsz2).trans HRow2.out
          have hrow5 := (hb45.block _ (by have := hb4.size; omega)).trans hrow4
          have hbb5 := (hb45.block w3.heap.size (by rw [hW4]; simp)).trans hbb
          have s0 : W4.cell? ⟨w1.heap.size, 0, none⟩ = some (.slice Ak envk.length ck) := by simp [World.cell?, hrow4]
          have s1 : W4.cell? ⟨w3.heap.size, 0, none⟩ = some (.string bd.name) := by simp [World.cell?, hbb]
          have s2 : W4.cell? ⟨w3.heap.size, 1, none⟩ = some (.bool bd.fn) := by simp [World.cell?, hbb]
          have r0 : W5.cell? ⟨w1.heap.size, 0, none⟩ = some (.slice Ak envk.length ck) := by simp [World.cell?, hrow5]
          have r1 : W5.cell? ⟨w3.heap.size, 0, none⟩ = some (.string bd.name) := by simp [World.cell?, hbb5]
          have r2 : W5.cell? ⟨w3.heap.size, 1, none⟩ = some (.bool bd.fn) := by simp [World.cell?, hbb5]
          obtain ⟨A9, c9, w6, hrun, ⟨v0, v1, v2⟩, hfz, hL7, hsz7, hrow7, hE7, hK7, hN7⟩ := body_env HLow2.out hsz2 HRow2.out HEnv2.out HK2.out HN.out HE1.out (by omega) hb4 hb45 hbb hb3.size hbc2
          have hfz0 := hfz 0
          obtain ⟨W7, hW7⟩ : ∃ W7, W7 = w6.setCell ⟨w1.heap.size, 0, none⟩ (.slice A9 (envk.length + 1) c9) := ⟨_, rfl⟩
          rw [← hW7] at hL7 hsz7 hrow7 hE7 hK7 hN7
          have hbK := below_new W7 (.cells #[.slice B2 t.length d2] 23)
          obtain ⟨A10, c10, w10, hrun2, hK10, hg10, n10, xs10, hown10⟩ := KidsAt.push (W := W7.alloc (.cells #[.slice B2 t.length d2] 23)) (g := W7.heap.size) (heap_alloc_new _ _) (hK7.below hbK) (hN7.below hbK) hM (by omega) (by simp; omega)
          rw [hkl] at hrun2 hK10
          have HNx := Lib.hid (body_next (k := k) (p := p) (parts := parts) (R := R) (hL7.trans (hbK.mono (by omega))) (by simp; omega) ((hbK.block _ hsz7).trans hrow7) (hE7.below hbK) (by rw [List.length_append, List.length_singleton]; omega) hown10 hg10 hK10 hkl HkO.out HO.out HR2.out)
          clear hbK hK10 hg10 hown10 hL7 hrow7 hE7 hK7 hN7 hfz hbb5 hrow5 hrow4 hbc hbc2 hbb hb45 hb4 HLow2 HRow2 HEnv2 HK2 HN HBi
          subst hW4
          subst hW5
          go_wp2_with fail
          refine wp_region_ordz (S := fun w' => w'.cell? ⟨w1.heap.size, 0, none⟩ = some (.slice Ak envk.length ck) ∧ w'.cell? ⟨w3.heap.size, 0, none⟩ = some (.string bd.name) ∧ w'.cell? ⟨w3.heap.size, 1, none⟩ = some (.bool bd.fn)) [0, 1, 2, 3, 4, 5, 6] [7, 8, 9, 10, 11, 12] 12 (by kernel_rfl) (by kernel_rfl) (fun _ _ _ _ _ h => h) ⟨s0, s1, s2⟩ ?_
          simp only [pick, List.filterMap_cons, List.filterMap_nil, List.getElem?_toArray, List.getElem?_cons_zero, List.getElem?_cons_succ]
          repeat (refine wpHead_step (v := ?_) rfl ?_ ?_; rotate_left; (focus (rintro w1 ⟨t0, t1, t2⟩; go_simp; try with_reducible rfl)); simp only [Act.put, List.setIfInBounds_toArray, List.set_cons_zero, List.set_cons_succ])
          refine wpHead_nil ?_
          refine wpTailZ_step rfl (fun K hK => ?_)
          go_wp2_with fail
          refine hK _ _ ⟨r0, r1, r2⟩ ?_
          clear hK K
          try simp only [Act.put, List.setIfInBounds_toArray, List.set_cons_zero, List.set_cons_succ]
          refine wpTailZ_step rfl (fun K hK => ?_)
          refine Nz.wp_append_run _ _ 22 22 rfl rfl rfl hrun ?_
          refine hK _ _ ⟨v0, v1, v2⟩ ?_
          clear hK K
          try simp only [Act.put, List.setIfInBounds_toArray, List.set_cons_zero, List.set_cons_succ]
          refine wpTailZ_step rfl (fun K hK => ?_)
          go_wp2_with fail
          refine hK _ _ ⟨v0, v1, v2⟩ ?_
          clear hK K
          try simp only [Act.put, List.setIfInBounds_toArray, List.set_cons_zero, List.set_cons_succ]
          refine wpTailZ_step rfl (fun K hK => ?_)
          go_wp2_with fail
          refine hK _ _ ⟨v0, v1, v2⟩ ?_
          clear hK K
          try simp only [Act.put, List.setIfInBounds_toArray, List.set_cons_zero, List.set_cons_succ]
          refine wpTailZ_step rfl (fun K hK => ?_)
          go_wp2_with fail
          refine hK _ _ ⟨v0, v1, v2⟩ ?_
          clear hK K
          try simp only [Act.put, List.setIfInBounds_toArray, List.set_cons_zero, List.set_cons_succ]
          refine wpTailZ_last rfl (fun K hK => ?_)
          subst hW7
          rw [show (w6.setCell ⟨w1.heap.size, 0, none⟩ (.slice A9 (envk.length + 1) c9)).heap.size = w6.heap.size by simp] at hrun2
          go_wp2_with (at_builtin; go_must (refine Nz.wpList_append_run rfl _ _ 115 115 rfl rfl rfl hrun2 ?_))
          go_roundw
          case rel => exact ⟨k + 1, by go_num, by omega, HNx⟩
          case measure => simp [intOf]; omega
      · have HF := Lib.hid (show GivesP R b (.returned (.tuple #[.slice none 0 0, .iface (errT y) (errX b y)])) w w2 by
          rw [HR1.out]
          exact ⟨HB1.out.trans (HLow2.out.mono HB1.out.size), rfl⟩)
        clear hG HC HR1
        go_wp2_with fail
        go_ret2
        exact HF.out
    · obtain rfl : k = parts.length := by omega
      have i1 : ¬ (parts.length : Int) < (parts.length : Int) := by omega
      have hR9 : R = joinP 11 noB ks := by
        rw [hRk, List.drop_length]
        rfl
      obtain ⟨Ak9, ck9, rfl, hTs⟩ := hK.holds
      have HC := Lib.hid (join_p 11 noB ks Ak9 ck9 a b wr (by decide) (by decide) (by omega) hTs hkO (HW1.out.below hlow))
      rw [← hR9, hkl] at HC
      unfold noB at HC
      have HB9 := Lib.hid (HB1.out.trans (hlow.mono HB1.out.size))
      clear hlow hrow hEnv hE hck hK hkO hRk HBo hTs
      rw [hkl]
      go_wp2_with fail
      refine HC.out.mono ?_
      intro e w2 hG
      have HG := Lib.hid (hG.low HB9.out)
      rcases hG.ways with ⟨t, B2, d2, L, -, rfl, -⟩ | ⟨y, -, rfl⟩
      · clear hG
        go_wp2_with fail
        go_ret2
        exact HG.out
      · clear hG
        go_wp2_with fail
        go_ret2
        exact HG.out
end Go.Proofs.YtebejlnegalokaaGreatDoor
