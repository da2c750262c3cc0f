/-
  A law for a region that draws its order, whose last operation waits for all the free ones: behind it nothing is asked of the world. No program here.
-/
import Derived.Test.YtamclieppbnpiabGreatDoorReg
set_option linter.unusedSimpArgs false
set_option linter.unusedVariables false
namespace Go.Proofs.YtamclieppbnpiabGreatDoor
open Go

section
variable {P : Program} {ops : Array Oper} {Q : Exit → Act → World → Prop} {S : World → Prop} {z : Nat}

def wpAnyZ (P : Program) (ops : Array Oper) (Q : Exit → Act → World → Prop) (S : World → Prop) (z : Nat) : Nat → Array Bool → Act → World → Prop
  | 0, listed, a, w => Region.ready .any ops listed = [] ∧ Q .normal a w
  | fuel + 1, listed, a, w =>
    (Region.ready .any ops listed = [] → Q .normal a w) ∧
    ∀ i ∈ Region.ready .any ops listed, wpOp P ops Q i (fun a' w' => (i ≠ z → S w') ∧ wpAnyZ P ops Q S z fuel (listed.setIfInBounds i true) a' w') a w

theorem wpAny_of_z : ∀ (fuel : Nat) (listed : Array Bool) (a : Act) (w : World), wpAnyZ P ops Q S z fuel listed a w → wpAny P .any ops Q fuel listed a w
  | 0, _, _, _, h => h
  | fuel + 1, _, _, _, h => ⟨h.1, fun i hi => wpOp_mono (fun a' w' h' => wpAny_of_z fuel _ a' w' h'.2) (h.2 i hi)⟩

/-- z waits for i. -/
def waitsB (ops : Array Oper) (z i : Nat) : Bool := match ops[z]? with
  | some o => o.after.toList.any fun e => Region.binds .any e && e.on == i
  | none => false

theorem wpAnyZ_first {i : Nat} {oi : Oper} {v : Value} (hi : ops[i]? = some oi) (hsel : ∀ (j : Nat) (o : Oper) cs b, ops[j]? = some o → o.op ≠ .select cs b)
    (hQ : ∀ c a w, Q (.panic c) (a.put oi.dst v) w → Q (.panic c) a w) (hz : waitsB ops z i = true) :
    ∀ (fuel : Nat) (listed : Array Bool) (a : Act) (w : World),
      (∀ j oj, ops[j]? = some oj → j ≠ i → listed.getD j true = false → (∀ e ∈ oj.after, Region.binds .any e = true → e.on ≠ i) → oi.apart ops oj = true) →
      i ∈ Region.ready .any ops listed → YieldsIf P ops S oi v a → S w →
      wpAnyZ P ops Q S z fuel (listed.setIfInBounds i true) (a.put oi.dst v) w → wpAnyZ P ops Q S z (fuel + 1) listed a w := by
  intro fuel
  induction fuel with
  | zero =>
    intro listed a w _ hr hy hS H
    refine ⟨fun h => (by rw [h] at hr; cases hr), fun j hj => ?_⟩
    by_cases hji : j = i
    · subst hji; exact hy.wpOp hi hS ⟨fun _ => hS, H⟩
    · have := ready_mono hj hji
      rw [H.1] at this
      cases this
  | succ fuel ih =>
    intro listed a w hfree hr hy hS H
    refine ⟨fun h => (by rw [h] at hr; cases hr), fun j hj => ?_⟩
    by_cases hji : j = i
    · subst hji; exact hy.wpOp hi hS ⟨fun _ => hS, H⟩
    · have h1 := H.2 j (ready_mono hj hji)
      obtain ⟨hjun, oj, hoj, hall⟩ := mem_ready.1 hj
      have hnot : ∀ e ∈ oj.after, Region.binds .any e = true → e.on ≠ i := fun e he hb heq => by
        have h1 := hall e he hb
        have h0 := (mem_ready.1 hr).1
        rw [heq] at h1
        rcases Nat.lt_or_ge i listed.size with h' | h'
        · simp [h'] at h0 h1; rw [h0] at h1; cases h1
        · simp [Array.getElem?_eq_none h'] at h1
      have hjz : j ≠ z := by
        intro e
        subst e
        unfold waitsB at hz
        rw [hoj] at hz
        simp only [List.any_eq_true, Bool.and_eq_true, beq_iff_eq] at hz
        obtain ⟨e, he, hb, heq⟩ := hz
        exact hnot e (by simpa using he) hb heq
      have h2 := wpOp_putIf hoj (hfree j oj hoj hji hjun hnot) (fun cs b => hsel i oi cs b hi) (fun cs b => hsel j oj cs b hoj) hQ hy h1
      have hfree' : ∀ k ok, ops[k]? = some ok → k ≠ i → (listed.setIfInBounds j true).getD k true = false →
          (∀ e ∈ ok.after, Region.binds .any e = true → e.on ≠ i) → oi.apart ops ok = true := fun k ok hk hki hun hno => by
        refine hfree k ok hk hki ?_ hno
        by_cases hjk : j = k
        · subst hjk; exact hjun
        · rw [getD_set_ne true hjk] at hun; exact hun
      refine wpOp_mono (fun a' w' h3 => ⟨fun _ => h3.2.1 hjz, ih (listed.setIfInBounds j true) a' w' hfree' (ready_mono hr (Ne.symm hji)) h3.1 (h3.2.1 hjz) ?_⟩) h2
      rw [Array.setIfInBounds_comm _ _ hji]
      exact h3.2.2

def wpTailZ (P : Program) (ops : Array Oper) (Q : Exit → Act → World → Prop) (S : World → Prop) : List Oper → Act → World → Prop
  | [], a, w => Q .normal a w
  | [o], a, w => if Region.wanted o (yielded ops a.tmps) then o.wp P a w (fun a' w' => Q .normal a' w') Q ∨ (o.asks P a w ∧ LetsOut Q) else Q .normal (a.put o.dst undef) w
  | o :: rest, a, w =>
    if Region.wanted o (yielded ops a.tmps) then o.wp P a w (fun a' w' => S w' ∧ wpTailZ P ops Q S rest a' w') Q ∨ (o.asks P a w ∧ LetsOut Q)
    else S w ∧ wpTailZ P ops Q S rest (a.put o.dst undef) w

theorem wpTailZ_step {o o2 : Oper} {rest : List Oper} {a : Act} {w : World} (hg : o.guard = none)
    (h : ∀ K : Act → World → Prop, (∀ a w, S w → wpTailZ P ops Q S (o2 :: rest) a w → K a w) → o.wp P a w K Q) : wpTailZ P ops Q S (o :: o2 :: rest) a w := by
  unfold wpTailZ
  rw [if_pos (by simp [Region.wanted, hg])]
  exact .inl (h _ fun _ _ h1 h2 => ⟨h1, h2⟩)
theorem wpTailZ_last {o : Oper} {a : Act} {w : World} (hg : o.guard = none) (h : ∀ K : Act → World → Prop, (∀ a w, Q .normal a w → K a w) → o.wp P a w K Q) : wpTailZ P ops Q S [o] a w := by
  unfold wpTailZ
  rw [if_pos (by simp [Region.wanted, hg])]
  exact .inl (h _ fun _ _ h1 => h1)

/-- z is the last. -/
def lastB (z : Nat) : List Nat → Bool
  | [] => false
  | [i] => i == z
  | _ :: is => lastB z is
def ordzB (ops : Array Oper) (hs ts : List Nat) (z : Nat) : Bool := ordB ops hs ts && lastB z ts && hs.all (fun i => waitsB ops z i)

theorem tailZ_any : ∀ (is : List Nat) (ls : Array Bool) (a : Act) (w : World), tailOK ops is ls = true → lastB z is = true → wpTailZ P ops Q S (pick ops is) a w → wpAnyZ P ops Q S z is.length ls a w
  | [], ls, a, w, _, hl, _ => by cases hl
  | [i], ls, a, w, ht, hl, h => by
    simp only [tailOK, Bool.and_eq_true, beq_iff_eq] at ht
    simp only [lastB, beq_iff_eq] at hl
    refine ⟨fun h0 => (by rw [ht.1] at h0; cases h0), fun j hj => ?_⟩
    have hj' : j = i := by rw [ht.1] at hj; simpa using hj
    subst hj'
    obtain ⟨_, o, ho, _⟩ := mem_ready.1 hj
    have ep : pick ops [j] = [o] := by simp [pick, ho]
    rw [ep] at h
    refine wpOp_mono (K := fun a' w' => Q .normal a' w') (fun a' w' hh => ⟨fun hne => absurd hl hne, ht.2, hh⟩) ?_
    unfold wpOp
    simp only [ho]
    exact h
  | i :: i2 :: is, ls, a, w, ht, hl, h => by
    have ht' := ht
    unfold tailOK at ht
    simp only [Bool.and_eq_true, beq_iff_eq] at ht
    refine ⟨fun h0 => (by rw [ht.1] at h0; cases h0), fun j hj => ?_⟩
    have hj' : j = i := by rw [ht.1] at hj; simpa using hj
    subst hj'
    obtain ⟨_, o, ho, _⟩ := mem_ready.1 hj
    have ht2 := ht.2
    unfold tailOK at ht2
    simp only [Bool.and_eq_true, beq_iff_eq] at ht2
    have hm2 : i2 ∈ Region.ready .any ops (ls.setIfInBounds j true) := by rw [ht2.1]; simp
    obtain ⟨_, o2, ho2, _⟩ := mem_ready.1 hm2
    have ep2 : pick ops (i2 :: is) = o2 :: pick ops is := by simp [pick, ho2]
    have ep : pick ops (j :: i2 :: is) = o :: o2 :: pick ops is := by simp [pick, ho, ho2]
    rw [ep] at h
    unfold wpTailZ at h
    refine wpOp_mono (K := fun a' w' => S w' ∧ wpTailZ P ops Q S (o2 :: pick ops is) a' w') (fun a' w' hh => ⟨fun _ => hh.1, tailZ_any (i2 :: is) _ a' w' ht.2 hl (by rw [ep2]; exact hh.2)⟩) ?_
    unfold wpOp
    simp only [ho]
    exact h

theorem headZ_any (hs : Region.noSelect ops = true) (hQ : ∀ c a (d : Nat) v w, Q (.panic c) (Act.put a (some d) v) w → Q (.panic c) a w) {w : World} (hS : S w) {k : Act → Prop} {f : Nat} :
    ∀ (is : List Nat) (ls : Array Bool) (a : Act), headOK ops is ls = true → is.all (fun i => waitsB ops z i) = true → (∀ a, k a → wpAnyZ P ops Q S z f (behind_ is ls) a w) → wpHead P ops S (pick ops is) k a → wpAnyZ P ops Q S z (f + is.length) ls a w
  | [], ls, a, _, _, hk, h => hk a h
  | i :: is, ls, a, ht, hz, hk, h => by
    simp only [headOK, Bool.and_eq_true] at ht
    simp only [List.all_cons, Bool.and_eq_true] at hz
    obtain ⟨⟨hf, hr⟩, ht⟩ := ht
    cases ho : ops[i]? with
    | none => simp [Region.free, ho] at hf
    | some o =>
      have ep : pick ops (i :: is) = o :: pick ops is := by simp [pick, ho]
      rw [ep] at h
      obtain ⟨v, hy, h'⟩ := h
      exact wpAnyZ_first ho (Region.noSelect_spec hs) (fun c a w => by cases hd : o.dst with | none => exact id | some d => exact hQ c a d v w) hz.1 _ ls a w (Region.free_spec ho hf) (by simpa using hr) hy hS
        (headZ_any hs hQ hS is _ _ ht hz.2 hk h')

theorem wp_region_ordz {id : Nat} {a : Act} {w : World} {l : List Oper} (hs ts : List Nat) (z : Nat) (hm : P.follows .mixedOrders = true) (hB : ordzB l.toArray hs ts z = true)
    (hQ : ∀ c a (d : Nat) v w, Q (.panic c) (Act.put a (some d) v) w → Q (.panic c) a w) (hS : S w.drew)
    (h : wpHead P l.toArray S (pick l.toArray hs) (fun a' => wpTailZ P l.toArray Q S (pick l.toArray ts) a' w.drew) a) : (Code.region id l.toArray true).wp P Q a w := by
  simp only [ordzB, ordB, Bool.and_eq_true, decide_eq_true_eq] at hB
  obtain ⟨⟨⟨⟨⟨hn, hl⟩, h1⟩, h2⟩, h3⟩, h4⟩ := hB
  have e : l.toArray.size = ts.length + hs.length := by omega
  refine wp_region_any hm (wpAny_of_z (S := S) (z := z) _ _ _ _ ?_)
  rw [e] at h1 h2 ⊢
  exact headZ_any hn hQ hS (k := fun a' => wpTailZ P l.toArray Q S (pick l.toArray ts) a' w.drew) hs _ a h1 h4 (fun a' ha' => tailZ_any ts _ a' _ h2 h3 ha') h
end
end Go.Proofs.YtamclieppbnpiabGreatDoor
