/-
  A range over a function whose iterator keeps state of its own in cells: a round that may leave the loop; the statement, where one may have left it. No program here.
-/
import Derived.Test.YtamclieppbnpiabGreatDoorJoint
set_option linter.unusedSimpArgs false
set_option linter.unusedVariables false
namespace Go.Proofs.YtamclieppbnpiabGreatDoor
open Go Go.RowKit

variable {F : Fence} {n : Nat} {P : Program}

/-- How the body of a round ends: it goes on, or it leaves by c. -/
def LeftBy (KO : World → World → Prop) (W1 : World) (Post : World → Prop) (PostX : Code → World → Prop) : Exit → Act → World → Prop
  | .normal, _, W3 => KO W1 W3 ∧ Post W3
  | .ret, _, W3 => KO W1 W3 ∧ PostX .ret W3
  | .exit id, _, W3 => KO W1 W3 ∧ PostX (.exit id) W3
  | .goto t, _, W3 => KO W1 W3 ∧ PostX (.goto t) W3
  | .panic _, _, _ => False
  | .outgrown, _, _ => False

/-- One round: the assignment, the body, both walked in the round's frame. -/
theorem round_both {l D : Nat} {r : Loop} {args : Array Value} {W : World} {Post : World → Prop} {PostX : Code → World → Prop} (hF : F.fn r.fn) (hb : Books l D r W) (hr : r.state = .ready) (hp : r.pending = none) (hs : args.size = r.params.size)
    (h : r.assign.wpIn (F.inRound l) n P (Exit.then (fun a W1 => KeepsOthers W W1 ∧
        r.body.wpIn (F.inRound l) n P (LeftBy KeepsOthers (W1.putObj l (.loop { r with state := .busy })) Post PostX) a (W1.putObj l (.loop { r with state := .busy }))) (fun _ _ _ => False))
      { tmps := (r.params.zip args).foldl (fun t (p, v) => t.setIfInBounds p v) r.tmps, defers := [] } W) :
    YieldAt F n P l args W fun e W' =>
      (e = .returned (.bool true) ∧ Books l D r W' ∧ ∃ W3, Books l D { r with state := .busy } W3 ∧ W' = W3.putObj l (.loop r) ∧ Post W3) ∨
      (e = .returned (.bool false) ∧ ∃ c, Books l D { r with state := .done, pending := some c } W' ∧ ∃ W3, Books l D { r with state := .busy } W3 ∧ W' = W3.putObj l (.loop { r with state := .done, pending := some c }) ∧ PostX c W3) := by
  refine ⟨r.fn, _, r.assign, r.body, run_yield hb.lp hs, roundIn_of_wpIn hF (wpIn_mono h ?_)⟩
  rintro e a W1 hq
  cases e with
  | normal =>
    obtain ⟨k1, hw⟩ := hq
    have b1 := hb.kept k1
    refine ⟨_, run_beginRound b1.lp hr, wpIn_mono hw ?_⟩
    have leave : ∀ (c : Code) (W3 : World), KeepsOthers (W1.putObj l (.loop { r with state := .busy })) W3 → PostX c W3 → ∃ (v : Value) (W' : World), (Instr.endRound l (some c)).run P W3 = .ok v W' ∧
        ((Ending.returned v = .returned (.bool true) ∧ Books l D r W' ∧ ∃ W3, Books l D { r with state := .busy } W3 ∧ W' = W3.putObj l (.loop r) ∧ Post W3) ∨
        (Ending.returned v = .returned (.bool false) ∧ ∃ c, Books l D { r with state := .done, pending := some c } W' ∧ ∃ W3, Books l D { r with state := .busy } W3 ∧ W' = W3.putObj l (.loop { r with state := .done, pending := some c }) ∧ PostX c W3)) := fun c W3 k3 hP => by
      have b3 := (b1.put { r with state := .busy }).kept k3
      have hend := run_endRound (P := P) (some c) b3.lp
      simp only [Option.isNone_some, if_false] at hend
      exact ⟨_, _, hend, .inr ⟨rfl, c, b3.put _, W3, b3, rfl, hP⟩⟩
    rintro e a W3 hP
    cases e with
    | normal =>
      obtain ⟨k3, hP⟩ := hP
      have b3 := (b1.put { r with state := .busy }).kept k3
      have he : ({ ({ r with state := .busy } : Loop) with state := .ready, pending := none } : Loop) = r := by
        cases r
        simp only at hr hp
        subst hr hp
        rfl
      have hend := run_endRound (P := P) none b3.lp
      simp only [Option.isNone_none, if_true] at hend
      rw [he] at hend
      exact ⟨_, _, hend, .inl ⟨rfl, b3.put r, W3, b3, rfl, hP⟩⟩
    | ret => exact leave _ _ hP.1 hP.2
    | exit id => exact leave _ _ hP.1 hP.2
    | goto t => exact leave _ _ hP.1 hP.2
    | panic c => exact hP.elim
    | outgrown => exact hP.elim
  | exit id => exact hq.elim
  | goto t => exact hq.elim
  | ret => exact hq.elim
  | panic c => exact hq.elim
  | outgrown => exact hq.elim

/-- The statement, at an outermost loop: the iterator is called where the books have been laid; one may have left it by c. -/
theorem range_both {g : Operand} {ps : Array Tmp} {assign body : Code} {Q : Exit → Act → World → Prop} {a : Act} {w : World} (hro : F.round = none) (h1 : 1 ≤ n) {gf : Nat} {lb : Array Value}
    (hg : a.eval g = .func (.func gf) #[] lb) (hFg : F.fn gf) (eg : ∀ args w, (callFunc gf args).run P w = .ok (.enter gf args) w)
    (h : ∀ (fn : FuncId) (r : Loop) (W : World), F.fn fn → r = { state := .ready, pending := none, fn, tmps := a.tmps, params := ps, assign, body, defers := w.heap.size } →
      W = (w.alloc (.deferred (some []))).alloc (.loop r) → Books (w.heap.size + 1) w.heap.size r W →
      CallsIn F (n - 1) P gf (#[.func (.yield (w.heap.size + 1)) #[] #[]] ++ lb) W fun e W' => (∃ v, e = .returned v) ∧ ((Books (w.heap.size + 1) w.heap.size r W' ∧
        Q .normal { a with defers := { target := .collected w.heap.size, args := #[] } :: a.defers } (W'.putObj (w.heap.size + 1) (.loop { r with state := .exhausted }))) ∨
        (∃ c, Books (w.heap.size + 1) w.heap.size { r with state := .done, pending := some c } W' ∧
          c.wpIn F n P Q { a with defers := { target := .collected w.heap.size, args := #[] } :: a.defers } (W'.putObj (w.heap.size + 1) (.loop { r with state := .exhausted, pending := some c }))))) :
    (Code.rangeFunc g ps assign body).wpIn F n P Q a w := by
  refine wpIn_rangeFunc fun fn hfn => ?_
  rw [hro]
  obtain ⟨r, hr⟩ : ∃ r : Loop, r = { state := .ready, pending := none, fn, tmps := a.tmps, params := ps, assign, body, defers := w.heap.size } := ⟨_, rfl⟩
  have hB : Books (w.heap.size + 1) w.heap.size r ((w.alloc (.deferred (some []))).alloc (.loop r)) :=
    ⟨by have := World.alloc_heap_new (w.alloc (.deferred (some []))) (.loop r); rwa [World.size_alloc] at this, (Below.heap_alloc _ _ _ (by simp)).trans (World.alloc_heap_new w _), by omega⟩
  refine ⟨w.heap.size + 1, [{ target := .collected w.heap.size, args := #[] }], (w.alloc (.deferred (some []))).alloc (.loop r), { target := .fn (.func gf) lb, args := #[.func (.yield (w.heap.size + 1)) #[] #[]] }, (w.alloc (.deferred (some []))).alloc (.loop r), gf,
    #[.func (.yield (w.heap.size + 1)) #[] #[]] ++ lb, (w.alloc (.deferred (some []))).alloc (.loop r), ?_, ?_, ?_, ?_, fun _ => h1, ?_⟩
  · rw [hr]
    exact run_enterLoop_outer _ _ _ _ _
  · simp only [resolve, hg]
    simp [go_sem]
  · intro f' hf'
    simp [Target.leads] at hf'
    subst hf'
    exact hFg
  · simp [invoke, go_sem, eg]
  · refine (h fn r _ hfn hr rfl hB).mono ?_
    rintro e W' ⟨⟨v, rfl⟩, (⟨hb, hQ⟩ | ⟨c, hb, hQ⟩)⟩
    · refine ⟨none, _, ?_, hQ⟩
      have := run_endLoop (P := P) hb.lp (by rw [hr]; simp)
      rw [this, hr]
    · refine ⟨some c, _, ?_, hQ⟩
      exact run_endLoop (P := P) hb.lp (by simp)
end Go.Proofs.YtamclieppbnpiabGreatDoor
