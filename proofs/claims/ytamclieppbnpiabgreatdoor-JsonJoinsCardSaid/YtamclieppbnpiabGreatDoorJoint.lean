/-
  A range over a function whose iterator keeps state of its own in cells: the loop's record and the deferred calls' block as 'Books'; one round out of its body's walk; the statement out of the iterator's call. No program here.
-/
import Derived.RangeFuncNested
import Derived.RangeFuncBound
import Derived.RangeFuncCalls
import Derived.RangeFuncLeaves
import Derived.RangeFuncBox
import Derived.Shelf.Abstract
set_option linter.unusedSimpArgs false
set_option linter.unusedVariables false
namespace Go.Proofs.YtamclieppbnpiabGreatDoor
open Go Go.RowKit

/-- The loop's record lies at l, the block for the rounds' deferred calls, empty, at D. -/
structure Books (l D : Nat) (r : Loop) (W : World) : Prop where
  lp : W.heap[l]? = some (.loop r)
  calls : W.heap[D]? = some (.deferred (some []))
  ne : l ≠ D

theorem Books.kept {l D : Nat} {r : Loop} {W W' : World} (h : Books l D r W) (k : KeepsOthers W W') : Books l D r W' := ⟨k.same _ _ h.lp rfl, k.same _ _ h.calls rfl, h.ne⟩
theorem Books.put {l D : Nat} {r : Loop} {W : World} (h : Books l D r W) (s : Loop) : Books l D s (W.putObj l (.loop s)) :=
  ⟨World.putObj_heap_same (Array.getElem?_eq_some_iff.1 h.lp).1, (World.putObj_heap_other h.ne.symm).trans h.calls, h.ne⟩

variable {F : Fence} {n : Nat} {P : Program}

/-- One round: the assignment, the body, both walked in the round's frame; it ends off the body's end. -/
theorem round_joint {l D : Nat} {r : Loop} {args : Array Value} {W : World} {Post : World → Prop} (hF : F.fn r.fn) (hb : Books l D r W) (hr : r.state = .ready) (hp : r.pending = none) (hs : args.size = r.params.size)
    (h : r.assign.wpIn (F.inRound l) n P (Exit.then (fun a W1 => KeepsOthers W W1 ∧
        r.body.wpIn (F.inRound l) n P (fun e _ W3 => e = .normal ∧ KeepsOthers (W1.putObj l (.loop { r with state := .busy })) W3 ∧ Post W3) a (W1.putObj l (.loop { r with state := .busy }))) (fun _ _ _ => False))
      { tmps := (r.params.zip args).foldl (fun t (p, v) => t.setIfInBounds p v) r.tmps, defers := [] } W) :
    YieldAt F n P l args W fun e W' => e = .returned (.bool true) ∧ Books l D r W' ∧ ∃ W3, Books l D { r with state := .busy } W3 ∧ W' = W3.putObj l (.loop r) ∧ Post W3 := by
  refine ⟨r.fn, _, r.assign, r.body, run_yield hb.lp hs, roundIn_of_wpIn hF (wpIn_mono h ?_)⟩
  rintro e a W1 hq
  cases e with
  | normal =>
    obtain ⟨k1, hw⟩ := hq
    have b1 := hb.kept k1
    refine ⟨_, run_beginRound b1.lp hr, wpIn_mono hw ?_⟩
    rintro e a W3 ⟨rfl, k3, hP⟩
    have b3 := (b1.put { r with state := .busy }).kept k3
    have he : ({ ({ r with state := .busy } : Loop) with state := .ready, pending := none } : Loop) = r := by
      cases r
      simp only at hr hp
      subst hr hp
      rfl
    have hend := run_endRound (P := P) none b3.lp
    simp only [Option.isNone_none, if_true] at hend
    rw [he] at hend
    exact ⟨_, _, hend, rfl, b3.put r, W3, b3, rfl, hP⟩
  | exit id => exact hq.elim
  | goto t => exact hq.elim
  | ret => exact hq.elim
  | panic c => exact hq.elim
  | outgrown => exact hq.elim

/-- The statement, at an outermost loop: the iterator is called where the books have been laid. -/
theorem range_joint {g : Operand} {ps : Array Tmp} {assign body : Code} {Q : Exit → Act → World → Prop} {a : Act} {w : World} (hro : F.round = none) (h1 : 1 ≤ n) {gf : Nat} {lb : Array Value}
    (hg : a.eval g = .func (.func gf) #[] lb) (hFg : F.fn gf) (eg : ∀ args w, (callFunc gf args).run P w = .ok (.enter gf args) w)
    (h : ∀ (fn : FuncId) (r : Loop) (W : World), F.fn fn → r = { state := .ready, pending := none, fn, tmps := a.tmps, params := ps, assign, body, defers := w.heap.size } →
      W = (w.alloc (.deferred (some []))).alloc (.loop r) → Books (w.heap.size + 1) w.heap.size r W →
      CallsIn F (n - 1) P gf (#[.func (.yield (w.heap.size + 1)) #[] #[]] ++ lb) W fun e W' => (∃ v, e = .returned v) ∧ Books (w.heap.size + 1) w.heap.size r W' ∧
        Q .normal { a with defers := { target := .collected w.heap.size, args := #[] } :: a.defers } (W'.putObj (w.heap.size + 1) (.loop { r with state := .exhausted }))) :
    (Code.rangeFunc g ps assign body).wpIn F n P Q a w := by
  refine wpIn_rangeFunc fun fn hfn => ?_
  rw [hro]
  obtain ⟨r, hr⟩ : ∃ r : Loop, r = { state := .ready, pending := none, fn, tmps := a.tmps, params := ps, assign, body, defers := w.heap.size } := ⟨_, rfl⟩
  have hB : Books (w.heap.size + 1) w.heap.size r ((w.alloc (.deferred (some []))).alloc (.loop r)) :=
    ⟨by have := World.alloc_heap_new (w.alloc (.deferred (some []))) (.loop r); rwa [World.size_alloc] at this, (Below.heap_alloc _ _ _ (by simp)).trans (World.alloc_heap_new w _), by omega⟩
  refine ⟨w.heap.size + 1, [{ target := .collected w.heap.size, args := #[] }], (w.alloc (.deferred (some []))).alloc (.loop r), { target := .fn (.func gf) lb, args := #[.func (.yield (w.heap.size + 1)) #[] #[]] }, (w.alloc (.deferred (some []))).alloc (.loop r), gf,
    #[.func (.yield (w.heap.size + 1)) #[] #[]] ++ lb, (w.alloc (.deferred (some []))).alloc (.loop r), ?_, ?_, ?_, ?_, fun _ => h1, ?_⟩
  · rw [hr]
    exact run_enterLoop_outer _ _ _ _ _
  · simp only [resolve, hg]
    simp [go_sem]
  · intro f' hf'
    simp [Target.leads] at hf'
    subst hf'
    exact hFg
  · simp [invoke, go_sem, eg]
  · refine (h fn r _ hfn hr rfl hB).mono ?_
    rintro e W' ⟨⟨v, rfl⟩, hb, hQ⟩
    refine ⟨none, _, ?_, hQ⟩
    have := run_endLoop (P := P) hb.lp (by rw [hr]; simp)
    rw [this, hr]
end Go.Proofs.YtamclieppbnpiabGreatDoor
