/-
  A law for a region that draws its order: free loads; a call and a making in either order; an appending that waits for them all; behind it two stores in either order. No program here.
-/
import Derived.Test.YtamclieppbnpiabGreatDoorRegA
import Derived.Test.YtamclieppbnpiabGreatDoorRegZ
set_option linter.unusedSimpArgs false
set_option linter.unusedVariables false
namespace Go.Proofs.YtamclieppbnpiabGreatDoor
open Go

section
variable {P : Program} {ops : Array Oper} {Q : Exit → Act → World → Prop} {S : World → Prop} {z : Nat}

/-- Up to z S holds behind each; behind z nothing is asked. -/
def wpAnyY (P : Program) (ops : Array Oper) (Q : Exit → Act → World → Prop) (S : World → Prop) (z : Nat) : Nat → Array Bool → Act → World → Prop
  | 0, listed, a, w => Region.ready .any ops listed = [] ∧ Q .normal a w
  | fuel + 1, listed, a, w =>
    (Region.ready .any ops listed = [] → Q .normal a w) ∧
    ∀ i ∈ Region.ready .any ops listed, wpOp P ops Q i (fun a' w' => if i = z then wpAny P .any ops Q fuel (listed.setIfInBounds i true) a' w' else S w' ∧ wpAnyY P ops Q S z fuel (listed.setIfInBounds i true) a' w') a w

theorem wpAny_of_y : ∀ (fuel : Nat) (listed : Array Bool) (a : Act) (w : World), wpAnyY P ops Q S z fuel listed a w → wpAny P .any ops Q fuel listed a w
  | 0, _, _, _, h => h
  | fuel + 1, _, _, _, h => ⟨h.1, fun i hi => wpOp_mono (fun a' w' h' => by
      split at h'
      · exact h'
      · exact wpAny_of_y fuel _ a' w' h'.2) (h.2 i hi)⟩

theorem wpAnyY_first {i : Nat} {oi : Oper} {v : Value} (hi : ops[i]? = some oi) (hsel : ∀ (j : Nat) (o : Oper) cs b, ops[j]? = some o → o.op ≠ .select cs b)
    (hQ : ∀ c a w, Q (.panic c) (a.put oi.dst v) w → Q (.panic c) a w) (hz : waitsB ops z i = true) (hiz : i ≠ z) :
    ∀ (fuel : Nat) (listed : Array Bool) (a : Act) (w : World),
      (∀ j oj, ops[j]? = some oj → j ≠ i → listed.getD j true = false → (∀ e ∈ oj.after, Region.binds .any e = true → e.on ≠ i) → oi.apart ops oj = true) →
      i ∈ Region.ready .any ops listed → YieldsIf P ops S oi v a → S w →
      wpAnyY P ops Q S z fuel (listed.setIfInBounds i true) (a.put oi.dst v) w → wpAnyY P ops Q S z (fuel + 1) listed a w := by
  intro fuel
  induction fuel with
  | zero =>
    intro listed a w _ hr hy hS H
    refine ⟨fun h => (by rw [h] at hr; cases hr), fun j hj => ?_⟩
    by_cases hji : j = i
    · subst hji; exact hy.wpOp hi hS (by rw [if_neg hiz]; exact ⟨hS, H⟩)
    · have := ready_mono hj hji
      rw [H.1] at this
      cases this
  | succ fuel ih =>
    intro listed a w hfree hr hy hS H
    refine ⟨fun h => (by rw [h] at hr; cases hr), fun j hj => ?_⟩
    by_cases hji : j = i
    · subst hji; exact hy.wpOp hi hS (by rw [if_neg hiz]; exact ⟨hS, H⟩)
    · have h1 := H.2 j (ready_mono hj hji)
      obtain ⟨hjun, oj, hoj, hall⟩ := mem_ready.1 hj
      have hnot : ∀ e ∈ oj.after, Region.binds .any e = true → e.on ≠ i := fun e he hb heq => by
        have h1 := hall e he hb
        have h0 := (mem_ready.1 hr).1
        rw [heq] at h1
        rcases Nat.lt_or_ge i listed.size with h' | h'
        · simp [h'] at h0 h1; rw [h0] at h1; cases h1
        · simp [Array.getElem?_eq_none h'] at h1
      have hjz : j ≠ z := by
        intro e
        subst e
        unfold waitsB at hz
        rw [hoj] at hz
        simp only [List.any_eq_true, Bool.and_eq_true, beq_iff_eq] at hz
        obtain ⟨e, he, hb, heq⟩ := hz
        exact hnot e (by simpa using he) hb heq
      simp only [if_neg hjz] at h1 ⊢
      have h2 := wpOp_putIf hoj (hfree j oj hoj hji hjun hnot) (fun cs b => hsel i oi cs b hi) (fun cs b => hsel j oj cs b hoj) hQ hy h1
      have hfree' : ∀ k ok, ops[k]? = some ok → k ≠ i → (listed.setIfInBounds j true).getD k true = false →
          (∀ e ∈ ok.after, Region.binds .any e = true → e.on ≠ i) → oi.apart ops ok = true := fun k ok hk hki hun hno => by
        refine hfree k ok hk hki ?_ hno
        by_cases hjk : j = k
        · subst hjk; exact hjun
        · rw [getD_set_ne true hjk] at hun; exact hun
      refine wpOp_mono (fun a' w' h3 => ⟨h3.2.1, ih (listed.setIfInBounds j true) a' w' hfree' (ready_mono hr (Ne.symm hji)) h3.1 h3.2.1 ?_⟩) h2
      rw [Array.setIfInBounds_comm _ _ hji]
      exact h3.2.2

theorem headY_any (hs : Region.noSelect ops = true) (hQ : ∀ c a (d : Nat) v w, Q (.panic c) (Act.put a (some d) v) w → Q (.panic c) a w) {w : World} (hS : S w) {k : Act → Prop} {f : Nat} :
    ∀ (is : List Nat) (ls : Array Bool) (a : Act), headOK ops is ls = true → is.all (fun i => waitsB ops z i && !(i == z)) = true → (∀ a, k a → wpAnyY P ops Q S z f (behind_ is ls) a w) → wpHead P ops S (pick ops is) k a → wpAnyY P ops Q S z (f + is.length) ls a w
  | [], ls, a, _, _, hk, h => hk a h
  | i :: is, ls, a, ht, hz, hk, h => by
    simp only [headOK, Bool.and_eq_true] at ht
    simp only [List.all_cons, Bool.and_eq_true] at hz
    obtain ⟨⟨hf, hr⟩, ht⟩ := ht
    cases ho : ops[i]? with
    | none => simp [Region.free, ho] at hf
    | some o =>
      have ep : pick ops (i :: is) = o :: pick ops is := by simp [pick, ho]
      rw [ep] at h
      obtain ⟨v, hy, h'⟩ := h
      exact wpAnyY_first ho (Region.noSelect_spec hs) (fun c a w => by cases hd : o.dst with | none => exact id | some d => exact hQ c a d v w) hz.1.1 (by simpa using hz.1.2) _ ls a w (Region.free_spec ho hf) (by simpa using hr) hy hS
        (headY_any hs hQ hS is _ _ ht hz.2 hk h')

/-- Behind z. -/
def lastsB (ops : Array Oper) (z : Nat) (us : List Nat) (p q : Nat) (ls : Array Bool) : Bool :=
  (Region.ready .any ops ls == [z]) && headOK ops us (ls.setIfInBounds z true) && (Region.ready .any ops (behind_ us (ls.setIfInBounds z true)) == [p, q]) &&
    tailOK ops [q] ((behind_ us (ls.setIfInBounds z true)).setIfInBounds p true) && tailOK ops [p] ((behind_ us (ls.setIfInBounds z true)).setIfInBounds q true)
def pushB (ops : Array Oper) (hs : List Nat) (c y z : Nat) (us : List Nat) (p q : Nat) : Bool :=
  Region.noSelect ops && decide (2 + us.length + 1 + 1 + 1 + hs.length = ops.size) && headOK ops hs (Array.replicate ops.size false) && hs.all (fun i => waitsB ops z i && !(i == z)) && !(c == z) && !(y == z) &&
    (Region.ready .any ops (behind_ hs (Array.replicate ops.size false)) == [c, y]) &&
    (Region.ready .any ops ((behind_ hs (Array.replicate ops.size false)).setIfInBounds c true) == [y]) && (Region.ready .any ops ((behind_ hs (Array.replicate ops.size false)).setIfInBounds y true) == [c]) &&
    lastsB ops z us p q (((behind_ hs (Array.replicate ops.size false)).setIfInBounds c true).setIfInBounds y true) && lastsB ops z us p q (((behind_ hs (Array.replicate ops.size false)).setIfInBounds y true).setIfInBounds c true)

/-- What is to be shown behind z. -/
def wpLasts (P : Program) (ops : Array Oper) (Q : Exit → Act → World → Prop) (z : Nat) (us : List Nat) (p q : Nat) (a : Act) (w : World) : Prop :=
  wpTailK P ops Q (fun _ => True) (fun a3 w3 => wpHead P ops (fun _ => True) (pick ops us) (fun a4 => wpTail P ops Q (fun _ => True) (pick ops [p, q]) a4 w3 ∧ wpTail P ops Q (fun _ => True) (pick ops [q, p]) a4 w3) a3) (pick ops [z]) a w

theorem lasts_any (hn : Region.noSelect ops = true) (hQ : ∀ c a (d : Nat) v w, Q (.panic c) (Act.put a (some d) v) w → Q (.panic c) a w) {us : List Nat} {p q : Nat} {ls : Array Bool} {a : Act} {w : World} (hB : lastsB ops z us p q ls = true)
    (h : wpLasts P ops Q z us p q a w) : wpAnyY P ops Q S z (2 + us.length + 1) ls a w := by
  simp only [lastsB, Bool.and_eq_true, beq_iff_eq] at hB
  obtain ⟨⟨⟨⟨hr, hu⟩, hpq⟩, hq⟩, hp⟩ := hB
  refine ⟨fun h0 => (by rw [hr] at h0; cases h0), fun i hi => ?_⟩
  have hi' : i = z := by rw [hr] at hi; simpa using hi
  subst hi'
  simp only [if_true]
  refine wpOp_mono ?_ (tailK_first (G := fun a' w' => wpAny P .any ops Q (2 + us.length) (ls.setIfInBounds i true) a' w') hi h (fun a3 w3 _ hk => ?_))
  · exact fun a' w' hh => hh.2
  · refine wpAny_of_held (S := fun _ => True) _ _ _ _ ?_
    refine headO_any (f := 2) hn hQ trivial us _ a3 hu (fun a4 h4 => ?_) hk
    refine wpAnyH_all hpq (by simp) fun j hj => ?_
    have hj' : j = p ∨ j = q := by simpa using hj
    have split : ∀ {x y : Nat}, x ∈ Region.ready .any ops (behind_ us (ls.setIfInBounds i true)) → tailOK ops [y] ((behind_ us (ls.setIfInBounds i true)).setIfInBounds x true) = true → wpTail P ops Q (fun _ => True) (pick ops [x, y]) a4 w3 →
        wpOp P ops Q x (fun a' w' => True ∧ wpAnyH P .any ops Q (fun _ => True) 1 ((behind_ us (ls.setIfInBounds i true)).setIfInBounds x true) a' w') a4 w3 := fun {x y} hx hy ht => by
      obtain ⟨_, o, ho, _⟩ := mem_ready.1 hx
      have ep : pick ops [x, y] = o :: pick ops [y] := by simp [pick, ho]
      rw [ep] at ht
      refine wpOp_mono (K := fun a' w' => True ∧ wpTail P ops Q (fun _ => True) (pick ops [y]) a' w') (fun a' w' hh => ⟨trivial, tailO_any [y] _ a' w' hy hh.2⟩) ?_
      unfold wpOp
      simp only [ho]
      exact ht
    rcases hj' with rfl | rfl
    · exact split (by rw [hpq]; simp) hq h4.1
    · exact split (by rw [hpq]; simp) hp h4.2

theorem wp_region_push {id : Nat} {a : Act} {w : World} {l : List Oper} (hs : List Nat) (c y z : Nat) (us : List Nat) (p q : Nat) (hm : P.follows .mixedOrders = true) (hB : pushB l.toArray hs c y z us p q = true)
    (hQ : ∀ c a (d : Nat) v w, Q (.panic c) (Act.put a (some d) v) w → Q (.panic c) a w) (hS : S w.drew)
    (h : wpHead P l.toArray S (pick l.toArray hs) (fun a' => wpTailK P l.toArray Q S (wpLasts P l.toArray Q z us p q) (pick l.toArray [c, y]) a' w.drew ∧ wpTailK P l.toArray Q S (wpLasts P l.toArray Q z us p q) (pick l.toArray [y, c]) a' w.drew) a) :
    (Code.region id l.toArray true).wp P Q a w := by
  simp only [pushB, Bool.and_eq_true, decide_eq_true_eq, beq_iff_eq] at hB
  obtain ⟨⟨⟨⟨⟨⟨⟨⟨⟨⟨hn, hl⟩, h1⟩, h2⟩, hcz⟩, hyz⟩, hr⟩, hrc⟩, hry⟩, hl1⟩, hl2⟩ := hB
  have hcz : c ≠ z := by simpa using hcz
  have hyz : y ≠ z := by simpa using hyz
  refine wp_region_any hm (wpAny_of_y (S := S) (z := z) _ _ _ _ ?_)
  rw [← hl] at h1 hr hrc hry hl1 hl2 ⊢
  refine headY_any hn hQ hS hs _ a h1 h2 (fun a' ha' => ?_) h
  generalize behind_ hs (Array.replicate (2 + us.length + 1 + 1 + 1 + hs.length) false) = l0 at hr hrc hry hl1 hl2 ⊢
  have step : ∀ {x y : Nat}, x ≠ z → y ≠ z → x ∈ Region.ready .any l.toArray l0 → Region.ready .any l.toArray (l0.setIfInBounds x true) = [y] → lastsB l.toArray z us p q ((l0.setIfInBounds x true).setIfInBounds y true) = true →
      wpTailK P l.toArray Q S (wpLasts P l.toArray Q z us p q) (pick l.toArray [x, y]) a' w.drew → wpOp P l.toArray Q x (fun a' w' => if x = z then wpAny P .any l.toArray Q (2 + us.length + 1 + 1) (l0.setIfInBounds x true) a' w' else S w' ∧ wpAnyY P l.toArray Q S z (2 + us.length + 1 + 1) (l0.setIfInBounds x true) a' w') a' w.drew := fun {x y} hx hy hm hr2 hl2 ht => by
    simp only [if_neg hx]
    refine tailK_first hm ht (fun a2 w2 hS2 hk2 => ?_)
    refine ⟨fun h0 => (by rw [hr2] at h0; cases h0), fun j hj => ?_⟩
    have hj' : j = y := by rw [hr2] at hj; simpa using hj
    subst hj'
    simp only [if_neg hy]
    exact tailK_first hj hk2 (fun a3 w3 hS3 hk3 => lasts_any hn hQ hl2 hk3)
  refine ⟨fun h0 => (by rw [hr] at h0; cases h0), fun j hj => ?_⟩
  have hj' : j = c ∨ j = y := by rw [hr] at hj; simpa using hj
  rcases hj' with rfl | rfl
  · exact step hcz hyz hj hrc hl1 ha'.1
  · exact step hyz hcz hj hry hl2 ha'.2
end
end Go.Proofs.YtamclieppbnpiabGreatDoor
