/-
  A law for a drawn region whose last operation waits for all others, its values related to the world, whatever the order. No program here.
-/
import Derived.Test.YtamclieppbnpiabGreatDoorJtC
set_option linter.unusedSimpArgs false
set_option linter.unusedVariables false
namespace Go.Proofs.YtamclieppbnpiabGreatDoor
open Go

section
variable {P : Program} {ops : Array Oper} {Q : Exit → Act → World → Prop}

def updV (vs : Nat → Value) (i : Nat) (v : Value) (j : Nat) : Value := if j = i then v else vs j
theorem updV_same (vs : Nat → Value) (i : Nat) (v : Value) : updV vs i v i = v := if_pos rfl
theorem updV_ne {vs : Nat → Value} {i j : Nat} {v : Value} (h : j ≠ i) : updV vs i v j = vs j := if_neg h
/-- The act behind the first so many operations of the text. -/
def preA (ops : Array Oper) (vs : Nat → Value) (a : Act) : Nat → Act
  | 0 => a
  | i + 1 => match ops[i]? with
    | some o => (preA ops vs a i).put o.dst (vs i)
    | none => preA ops vs a i
/-- What has been put so far. -/
structure PutF (ops : Array Oper) (vs : Nat → Value) (a b : Act) (L : Nat → Prop) : Prop where
  defers : b.defers = a.defers
  size : b.tmps.size = a.tmps.size
  done : ∀ (j : Nat) (o : Oper) (t : Tmp), ops[j]? = some o → o.dst = some t → L j → t < a.tmps.size → b.tmps[t]? = some (vs j)
  rest : ∀ (t : Tmp), (∀ (j : Nat) (o : Oper), ops[j]? = some o → L j → o.dst ≠ some t) → b.tmps[t]? = a.tmps[t]?
theorem PutF.put {vs : Nat → Value} {a b : Act} {L : Nat → Prop} (h : PutF ops vs a b L) (hd : ∀ (i j : Nat) (oi oj : Oper) (t : Tmp), ops[i]? = some oi → ops[j]? = some oj → j ≠ i → oj.dst = some t → oi.dst ≠ some t)
    {i : Nat} {o : Oper} (v : Value) (hi : ops[i]? = some o) (hL : ¬ L i) : PutF ops (updV vs i v) a (b.put o.dst v) (fun j => L j ∨ j = i) := by
  have keep : ∀ j, L j → updV vs i v j = vs j := fun j hj => updV_ne (fun e => hL (e ▸ hj))
  cases hdst : o.dst with
  | none =>
    refine ⟨h.defers, h.size, fun j o' t hj ht hL' hlt => ?_, fun t ht => h.rest t (fun j o' hj hL => ht j o' hj (.inl hL))⟩
    rcases hL' with hL' | rfl
    · rw [keep j hL']; exact h.done j o' t hj ht hL' hlt
    · rw [hi] at hj; cases hj; rw [hdst] at ht; cases ht
  | some d =>
    refine ⟨h.defers, by simp [Act.put, h.size], fun j o' t hj ht hL' hlt => ?_, fun t ht => ?_⟩
    · by_cases hji : j = i
      · subst hji
        rw [hi] at hj
        cases hj
        rw [hdst] at ht
        cases ht
        rw [updV_same]
        simp [Act.put, Array.getElem?_setIfInBounds, h.size, hlt]
      · have hne : d ≠ t := fun e => hd i j o o' t hi hj hji ht (by rw [hdst, e])
        rw [show (b.put (some d) v).tmps[t]? = b.tmps[t]? by simp [Act.put, Array.getElem?_setIfInBounds_ne hne], updV_ne hji]
        exact h.done j o' t hj ht (hL'.resolve_right hji) hlt
    · have hne : d ≠ t := fun e => ht i o hi (.inr rfl) (by rw [hdst, e])
      rw [show (b.put (some d) v).tmps[t]? = b.tmps[t]? by simp [Act.put, Array.getElem?_setIfInBounds_ne hne]]
      exact h.rest t (fun j o' hj hL => ht j o' hj (.inl hL))
theorem PutF.agree {vs : Nat → Value} {a b b' : Act} {L L' : Nat → Prop} (h : PutF ops vs a b L) (h' : PutF ops vs a b' L') (t : Nat)
    (hT : ∀ (j : Nat) (o : Oper), ops[j]? = some o → o.dst = some t → (L j ∧ L' j) ∨ (¬ L j ∧ ¬ L' j)) : b.tmps[t]? = b'.tmps[t]? := by
  rcases Nat.lt_or_ge t a.tmps.size with hlt | hge
  · by_cases hex : ∃ j o, ops[j]? = some o ∧ o.dst = some t ∧ L j
    · obtain ⟨j, o, hj, hd, hL⟩ := hex
      have hL' := ((hT j o hj hd).resolve_right (fun h => h.1 hL)).2
      rw [h.done j o t hj hd hL hlt, h'.done j o t hj hd hL' hlt]
    · rw [h.rest t (fun j o hj hL hd => hex ⟨j, o, hj, hd, hL⟩), h'.rest t (fun j o hj hL' hd => by
        rcases hT j o hj hd with h1 | h1
        · exact hex ⟨j, o, hj, hd, h1.1⟩
        · exact h1.2 hL')]
  · rw [Array.getElem?_eq_none (by rw [h.size]; exact hge), Array.getElem?_eq_none (by rw [h'.size]; exact hge)]
theorem pre_put {vs : Nat → Value} {a : Act} (hd : ∀ (i j : Nat) (oi oj : Oper) (t : Tmp), ops[i]? = some oi → ops[j]? = some oj → j ≠ i → oj.dst = some t → oi.dst ≠ some t) : ∀ i, i ≤ ops.size → PutF ops vs a (preA ops vs a i) (fun j => j < i) := by
  intro i
  induction i with
  | zero => intro _; exact ⟨rfl, rfl, fun _ _ _ _ _ h => absurd h (by omega), fun _ _ => rfl⟩
  | succ i ih =>
    intro hi
    have hoi := Array.getElem?_eq_getElem (xs := ops) (i := i) (by omega)
    have := (ih (by omega)).put hd (vs i) hoi (by omega)
    have e : updV vs i (vs i) = vs := funext fun j => by unfold updV; split; · rename_i h; rw [h]
                                                         · rfl
    rw [e] at this
    unfold preA
    rw [hoi]
    exact ⟨this.defers, this.size, fun j o t h1 h2 h3 h4 => this.done j o t h1 h2 (by omega) h4, fun t ht => this.rest t (fun j o h1 h2 => ht j o h1 (by omega))⟩
/-- The closed fact: all others are ahead of the last one. -/
def relB (ops : Array Oper) (n : Nat) : Bool := decide (ops.size = n + 1) && (List.range n).all fun j => (List.range ops.size).any fun i => decide (j < i) && match ops[i]? with
  | none => false
  | some o => o.after.toList.any fun e => Region.binds .any e && e.on == j
/-- An operation may run at act a, in the relation G. -/
def StepG (P : Program) (ops : Array Oper) (G : (Nat → Prop) → (Nat → Value) → World → Prop) (a : Act) (i : Nat) (o : Oper) : Prop :=
  ∀ (L : Nat → Prop) (vs : Nat → Value) (w : World), G L vs w → ¬ L i → (∀ e ∈ o.after, Region.binds .any e = true → L e.on) →
    Region.wanted o (yielded ops (preA ops vs a i).tmps) = true ∧ ∀ (K : Act → World → Prop) (Q : Exit → Act → World → Prop), (∀ v w', G (fun j => L j ∨ j = i) (updV vs i v) w' → K ((preA ops vs a i).put o.dst v) w') → o.wp P (preA ops vs a i) w K Q
theorem op_turn {o : Oper} {a b : Act} (he : execOp b.eval o = execOp a.eval o) (hw : Region.wanted o (yielded ops b.tmps) = Region.wanted o (yielded ops a.tmps)) (hs : b.tmps.size = a.tmps.size)
    {i : Nat} (hi : ops[i]? = some o) {w : World} {X : Value → World → Prop} (h1 : Region.wanted o (yielded ops a.tmps) = true)
    (h2 : ∀ (K : Act → World → Prop) (Q : Exit → Act → World → Prop), (∀ v w', X v w' → K (a.put o.dst v) w') → o.wp P a w K Q) {K : Act → World → Prop} (hK : ∀ v w', X v w' → K (b.put o.dst v) w') : wpOp P ops Q i K b w := by
  unfold Go.wpOp
  simp only [hi]
  rw [if_pos (by rw [hw]; exact h1)]
  left
  have h3 := h2 (fun c w' => ∃ v, c = a.put o.dst v ∧ X v w') (fun _ _ _ => False) (fun v w' h => ⟨v, rfl, h⟩)
  unfold Oper.wp at h3 ⊢
  rw [he]
  generalize (execOp a.eval o).run P w = r at *
  have turn : ∀ u w', (∃ v, a.put o.dst u = a.put o.dst v ∧ X v w') → K (b.put o.dst u) w' := fun u w' ⟨v, e, hx⟩ => by rw [put_turn hs e]; exact hK v w' hx
  cases r with
  | ok n w' =>
    cases n with
    | value u => exact turn u w' h3
    | skip => exact turn _ w' h3
    | defer d =>
      obtain ⟨v, e, _⟩ := h3
      exact absurd (congrArg (fun z : Act => z.defers.length) e) (by cases o.dst <;> simp [Act.put])
    | enter f args => exact Calls.mono h3 (fun e w'' hh => by
        cases e with
        | returned u => exact turn u w'' hh
        | panicked c => exact hh.elim
        | outgrown =>
          obtain ⟨_, _, hx⟩ := hh
          exact hx.elim)
    | row row args => exact Rows.mono h3 (fun u w'' hh => turn u w'' hh)
    | _ => exact h3.elim
  | halt x w' => cases x <;> exact h3.elim

theorem any_of_rel {a : Act} {n : Nat} {G : (Nat → Prop) → (Nat → Value) → World → Prop} (hB : fixB ops = true) (hN : relB ops n = true)
    (hstep : ∀ i o, i < n → ops[i]? = some o → StepG P ops G a i o)
    (hfree : ∀ o, ops[n]? = some o → o.guard = none) (hend : ∀ o, ops[n]? = some o → ∀ vs w, G (fun j => j < n) vs w → o.wp P (preA ops vs a n) w (fun b w' => Q .normal b w') Q) :
    ∀ (fuel : Nat) (listed : Array Bool) (b : Act) (w : World) (vs : Nat → Value), listed.size = ops.size → PutF ops vs a b (fun j => listed.getD j false = true) → G (fun j => listed.getD j false = true) vs w →
      (∀ i o, ops[i]? = some o → listed.getD i false = true → i < n ∧ ∀ e ∈ o.after, Region.binds .any e = true → listed.getD e.on false = true) → (List.range ops.size).countP (fun i => !listed.getD i true) ≤ fuel → wpAny P .any ops Q fuel listed b w := by
  obtain ⟨hns, hb1, hb2, hb3⟩ := fixB_spec hB
  unfold relB at hN
  simp only [Bool.and_eq_true, decide_eq_true_eq, List.all_eq_true, List.any_eq_true, List.mem_range] at hN
  obtain ⟨hsz1, hN⟩ := hN
  have lt : ∀ {i : Nat} {o : Oper}, ops[i]? = some o → i < ops.size := fun h => (Array.getElem?_eq_some_iff.1 h).1
  have holast := Array.getElem?_eq_getElem (xs := ops) (i := n) (by omega)
  intro fuel
  induction fuel with
  | zero =>
    intro listed b w vs hsz hI hG hdn hc
    exfalso
    have hall : ∀ i, i < ops.size → listed.getD i false = true := fun i hi => by
      have h1 : (List.range ops.size).countP (fun i => !listed.getD i true) = 0 := by omega
      have h2 := List.countP_eq_zero.1 h1 i (List.mem_range.2 hi)
      rw [getD_bool (by omega)] at h2 ⊢
      simpa using h2
    have := (hdn n _ holast (hall n (by omega))).1
    omega
  | succ fuel ih =>
    intro listed b w vs hsz hI hG hdn hc
    have notn : listed.getD n false = false := by
      cases h : listed.getD n false with
      | false => rfl
      | true => have := (hdn n _ holast h).1; omega
    refine ⟨fun hr => ?_, fun i hi => ?_⟩
    · exfalso
      have all : ∀ i, i < ops.size → listed.getD i false = true := by
        intro i
        induction i using Nat.strongRecOn with
        | _ i ih =>
          intro hi
          cases hc : listed.getD i false with
          | true => rfl
          | false =>
            exfalso
            have hoi := Array.getElem?_eq_getElem (xs := ops) (i := i) hi
            have : i ∈ Region.ready .any ops listed := mem_ready.2 ⟨by rw [getD_bool (by omega)] at hc ⊢; exact hc, _, hoi, fun e he hb => by
              have h1 := hb1 i _ hoi e he hb
              exact ih e.on h1 (by omega)⟩
            rw [hr] at this
            cases this
      rw [all n (by omega)] at notn
      cases notn
    · obtain ⟨h1, o, ho, h2⟩ := mem_ready.1 hi
      have hil : i < listed.size := by rw [hsz]; exact lt ho
      have hni : ¬ listed.getD i false = true := by
        rw [getD_bool hil] at h1 ⊢
        rw [h1]
        simp
      have hp := pre_put (vs := vs) (a := a) hb2 i (Nat.le_of_lt (lt ho))
      have agree : ∀ t ∈ o.looksAt ops, b.tmps[t]? = (preA ops vs a i).tmps[t]? := fun t ht => hI.agree hp t (fun j oj hj hd => by
        by_cases hji : j = i
        · subst hji
          exact .inr ⟨hni, by omega⟩
        · obtain ⟨h3, e, he, hb, hon⟩ := hb3 i j o oj t ho hj hji hd ht
          refine .inl ⟨?_, h3⟩
          rw [← hon]
          exact h2 e he hb)
      have he : execOp b.eval o = execOp (preA ops vs a i).eval o := execOp_congr o (Region.noSelect_spec hns i o · · ho) (fun x hx => by
        cases x with
        | tmp t =>
          have := agree t (List.mem_append_left _ (List.mem_filterMap.2 ⟨.tmp t, by simpa using hx, rfl⟩))
          simp [Act.eval, this]
        | _ => rfl)
      have hw : Region.wanted o (yielded ops b.tmps) = Region.wanted o (yielded ops (preA ops vs a i).tmps) := by
        unfold Region.wanted
        cases hg : o.guard with
        | none => rfl
        | some gw =>
          obtain ⟨g, want⟩ := gw
          have hy : yielded ops b.tmps g = yielded ops (preA ops vs a i).tmps g := by
            unfold yielded
            cases ht : (ops[g]?).bind (·.dst) with
            | none => rfl
            | some t =>
              have := agree t (by simp [Oper.looksAt, hg, ht])
              simp [this]
          simp only [hy]
      rcases Nat.lt_or_ge i n with hin | hin
      · obtain ⟨hwant, hrun⟩ := hstep i o hin ho (fun j => listed.getD j false = true) vs w hG hni h2
        refine op_turn (X := fun v w' => G (fun j => listed.getD j false = true ∨ j = i) (updV vs i v) w') he hw (hI.size.trans hp.size.symm) ho hwant hrun (fun v w' hG' => ?_)
        have hget : ∀ j, (listed.setIfInBounds i true).getD j false = true ↔ listed.getD j false = true ∨ j = i := fun j => by
          by_cases hji : j = i
          · subst hji
            simp [Array.getD, hil]
          · rw [getD_set_ne false (Ne.symm hji)]
            simp [hji]
        have eL : (fun j => (listed.setIfInBounds i true).getD j false = true) = (fun j => listed.getD j false = true ∨ j = i) := funext fun j => propext (hget j)
        refine ih (listed.setIfInBounds i true) (b.put o.dst v) w' (updV vs i v) (by simp [hsz]) (by rw [eL]; exact hI.put hb2 v ho hni) (by rw [eL]; exact hG') (fun j oj hj hL => ?_) ?_
        · rcases (hget j).1 hL with hL | rfl
          · exact ⟨(hdn j oj hj hL).1, fun e he hb => (hget _).2 (.inl ((hdn j oj hj hL).2 e he hb))⟩
          · rw [ho] at hj
            cases hj
            exact ⟨hin, fun e he hb => (hget _).2 (.inl (h2 e he hb))⟩
        · have := countP_less (p := fun j => !listed.getD j true) (q := fun j => !(listed.setIfInBounds i true).getD j true) (i := i) (fun j hj => by
            by_cases hji : j = i
            · subst hji; simp [h1]
            · rw [getD_set_ne true (Ne.symm hji)] at hj
              exact hj) (by simp [h1]) (by simp [Array.getD, hil]) (List.range ops.size) (List.mem_range.2 (lt ho))
          omega
      · obtain rfl : i = n := by have := lt ho; omega
        have all : ∀ d j, j + d + 1 = i → listed.getD j false = true := by
          intro d
          induction d using Nat.strongRecOn with
          | _ d ihd =>
            intro j hj
            obtain ⟨k, hk, hjk, hk2⟩ := hN j (by omega)
            have hok := Array.getElem?_eq_getElem (xs := ops) (i := k) hk
            rw [hok] at hk2
            simp only [List.any_eq_true, Bool.and_eq_true, beq_iff_eq] at hk2
            obtain ⟨e, he2, hb, hon⟩ := hk2
            rw [← hon]
            by_cases hki : k = i
            · subst hki
              rw [ho] at hok
              have := Option.some.inj hok
              rw [← this] at he2
              exact h2 e (by simpa using he2) hb
            · have hLk := ihd (i - k - 1) (by omega) k (by omega)
              exact (hdn k _ hok hLk).2 e (by simpa using he2) hb
        have eL : (fun j => listed.getD j false = true) = (fun j => j < i) := funext fun j => propext ⟨fun h => by
          rcases Nat.lt_or_ge j ops.size with h3 | h3
          · exact (hdn j _ (Array.getElem?_eq_getElem h3) h).1
          · exact absurd h (by simp [Array.getD, Nat.not_lt.2 (hsz ▸ h3)]), fun h => all (i - j - 1) j (by omega)⟩
        have eb : b = preA ops vs a i := by
          rw [eL] at hI
          have ht : b.tmps = (preA ops vs a i).tmps := Array.ext_getElem? (fun t => hI.agree hp t (fun j o hj _ => by
            rcases Nat.lt_or_ge j i with h | h
            · exact .inl ⟨h, h⟩
            · exact .inr ⟨by omega, by omega⟩))
          have hd : b.defers = (preA ops vs a i).defers := hI.defers.trans hp.defers.symm
          generalize preA ops vs a i = c at *
          cases b
          cases c
          simp only at ht hd
          rw [ht, hd]
        rw [eL] at hG
        have hrun := hend o ho vs w hG
        unfold Go.wpOp
        simp only [ho]
        rw [eb, if_pos (by unfold Region.wanted; rw [hfree o ho])]
        left
        refine Oper.wp_mono (fun b' w' hq => ?_) hrun
        have hready : Region.ready .any ops (listed.setIfInBounds i true) = [] := by
          cases hr : Region.ready .any ops (listed.setIfInBounds i true) with
          | nil => rfl
          | cons x r =>
            exfalso
            have hx : x ∈ Region.ready .any ops (listed.setIfInBounds i true) := by rw [hr]; simp
            obtain ⟨h1', o', ho', _⟩ := mem_ready.1 hx
            by_cases hxi : x = i
            · subst hxi
              simp [Array.getD, hil] at h1'
            · rw [getD_set_ne true (Ne.symm hxi)] at h1'
              have h5 := all (i - x - 1) x (by have := lt ho'; omega)
              rw [getD_bool (by rw [hsz]; exact lt ho')] at h1' h5
              rw [h1'] at h5
              cases h5
        cases fuel with
        | zero => exact ⟨hready, hq⟩
        | succ f => exact ⟨fun _ => hq, fun j hj => by rw [hready] at hj; cases hj⟩

theorem wp_region_rel {id : Nat} {a : Act} {w : World} {l : List Oper} {n : Nat} (G : (Nat → Prop) → (Nat → Value) → World → Prop) (hm : P.follows .mixedOrders = true) (hB : fixB l.toArray = true) (hN : relB l.toArray n = true) (hG : ∀ vs, G (fun _ => False) vs w.drew)
    (hstep : ∀ i o, i < n → l.toArray[i]? = some o → StepG P l.toArray G a i o)
    (hfree : ∀ o, l.toArray[n]? = some o → o.guard = none) (hend : ∀ o, l.toArray[n]? = some o → ∀ vs w, G (fun j => j < n) vs w → o.wp P (preA l.toArray vs a n) w (fun b w' => Q .normal b w') Q) : (Code.region id l.toArray true).wp P Q a w := by
  have e0 : (fun j => (Array.replicate l.toArray.size false).getD j false = true) = (fun _ => False) := funext fun j => propext ⟨fun h => by simp [Array.getD] at h, fun h => h.elim⟩
  refine wp_region_any hm (any_of_rel (G := G) hB hN hstep hfree hend _ _ a _ (fun _ => undef) (by simp) ?_ ?_ (fun i o _ h => ?_) ?_)
  · rw [e0]
    exact ⟨rfl, rfl, fun j o t h1 h2 h3 => h3.elim, fun _ _ => rfl⟩
  · rw [e0]; exact hG _
  · simp [Array.getD] at h
  · exact Nat.le_trans List.countP_le_length (by simp)
end
end Go.Proofs.YtamclieppbnpiabGreatDoor
