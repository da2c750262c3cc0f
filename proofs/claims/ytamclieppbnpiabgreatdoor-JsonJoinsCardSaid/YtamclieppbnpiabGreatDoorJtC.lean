/-
  A law for a drawn region whose operations all keep S and leave the same in whatever order. No program here.
-/
import Derived.Test.YtamclieppbnpiabGreatDoorReg
set_option linter.unusedSimpArgs false
set_option linter.unusedVariables false
namespace Go.Proofs.YtamclieppbnpiabGreatDoor
open Go

section
variable {P : Program} {ops : Array Oper} {Q : Exit → Act → World → Prop} {S : World → Prop}

/-- In act a the operation leaves v in its slot, whatever the world of S, and S stays. -/
def Keeps (P : Program) (ops : Array Oper) (S : World → Prop) (o : Oper) (v : Value) (a : Act) : Prop :=
  (Region.wanted o (yielded ops a.tmps) = true ∧ ∀ w, S w → ∀ (K : Act → World → Prop) (Q : Exit → Act → World → Prop), (∀ w', S w' → K (a.put o.dst v) w') → o.wp P a w K Q) ∨
  (Region.wanted o (yielded ops a.tmps) = false ∧ v = undef)
def wpFix (P : Program) (ops : Array Oper) (S : World → Prop) (k : Act → Prop) : List Oper → Act → Prop
  | [], a => k a
  | o :: rest, a => ∃ v, Keeps P ops S o v a ∧ wpFix P ops S k rest (a.put o.dst v)

/-- The closed fact. -/
def fixB (ops : Array Oper) : Bool :=
  Region.noSelect ops && (List.range ops.size).all fun i => match ops[i]? with
    | none => true
    | some oi => oi.after.toList.all (fun e => !Region.binds .any e || decide (e.on < i)) && (List.range ops.size).all fun j => j == i || match ops[j]? with
      | none => true
      | some oj => match oj.dst with
        | none => true
        | some t => (oi.dst != some t) && (!(oi.looksAt ops).contains t || (decide (j < i) && oi.after.toList.any fun e => Region.binds .any e && e.on == j))
theorem fixB_spec (h : fixB ops = true) : Region.noSelect ops = true ∧
    (∀ (i : Nat) (oi : Oper), ops[i]? = some oi → ∀ e ∈ oi.after, Region.binds .any e = true → e.on < i) ∧
    (∀ (i j : Nat) (oi oj : Oper) (t : Tmp), ops[i]? = some oi → ops[j]? = some oj → j ≠ i → oj.dst = some t → oi.dst ≠ some t) ∧
    (∀ (i j : Nat) (oi oj : Oper) (t : Tmp), ops[i]? = some oi → ops[j]? = some oj → j ≠ i → oj.dst = some t → t ∈ oi.looksAt ops → j < i ∧ ∃ e ∈ oi.after, Region.binds .any e = true ∧ e.on = j) := by
  unfold fixB at h
  simp only [Bool.and_eq_true, List.all_eq_true, List.mem_range] at h
  obtain ⟨h1, h2⟩ := h
  have lt : ∀ {i : Nat} {o : Oper}, ops[i]? = some o → i < ops.size := fun h => (Array.getElem?_eq_some_iff.1 h).1
  refine ⟨h1, fun i oi hi e he hb => ?_, fun i j oi oj t hi hj hne ht => ?_, fun i j oi oj t hi hj hne ht hl => ?_⟩
  · have := h2 i (lt hi)
    simp only [hi, Bool.and_eq_true, List.all_eq_true] at this
    have := this.1 e (by simpa using he)
    simp only [hb, Bool.not_true, Bool.false_or, decide_eq_true_eq] at this
    exact this
  · have := h2 i (lt hi)
    simp only [hi, Bool.and_eq_true, List.all_eq_true, List.mem_range] at this
    have := this.2 j (lt hj)
    simp only [hj, ht, Bool.or_eq_true, beq_iff_eq, hne, false_or, Bool.and_eq_true, bne_iff_ne] at this
    exact this.1
  · have := h2 i (lt hi)
    simp only [hi, Bool.and_eq_true, List.all_eq_true, List.mem_range] at this
    have := this.2 j (lt hj)
    have hc : (oi.looksAt ops).contains t = true := by simpa using hl
    simp only [hj, ht, Bool.or_eq_true, beq_iff_eq, hne, false_or, Bool.and_eq_true, hc, Bool.not_true, Bool.false_eq_true, decide_eq_true_eq, List.any_eq_true] at this
    obtain ⟨h3, e, he, hb, hon⟩ := this.2
    exact ⟨h3, e, by simpa using he, hb, hon⟩

/-- What has been put so far. -/
structure PutInv (ops : Array Oper) (vs : List Value) (a b : Act) (L : Nat → Prop) : Prop where
  defers : b.defers = a.defers
  size : b.tmps.size = a.tmps.size
  done : ∀ (j : Nat) (o : Oper) (v : Value) (t : Tmp), ops[j]? = some o → o.dst = some t → L j → vs[j]? = some v → t < a.tmps.size → b.tmps[t]? = some v
  rest : ∀ (t : Tmp), (∀ (j : Nat) (o : Oper), ops[j]? = some o → L j → o.dst ≠ some t) → b.tmps[t]? = a.tmps[t]?
theorem PutInv.start (vs : List Value) (a : Act) : PutInv ops vs a a (fun _ => False) := ⟨rfl, rfl, fun _ _ _ _ _ _ h => h.elim, fun _ _ => rfl⟩
theorem PutInv.put {vs : List Value} {a b : Act} {L : Nat → Prop} (h : PutInv ops vs a b L) (hd : ∀ (i j : Nat) (oi oj : Oper) (t : Tmp), ops[i]? = some oi → ops[j]? = some oj → j ≠ i → oj.dst = some t → oi.dst ≠ some t)
    {i : Nat} {o : Oper} {v : Value} (hi : ops[i]? = some o) (hv : vs[i]? = some v) : PutInv ops vs a (b.put o.dst v) (fun j => L j ∨ j = i) := by
  cases hdst : o.dst with
  | none =>
    refine ⟨h.defers, h.size, fun j o' v' t hj ht hL hv' hlt => ?_, fun t ht => h.rest t (fun j o' hj hL => ht j o' hj (.inl hL))⟩
    rcases hL with hL | rfl
    · exact h.done j o' v' t hj ht hL hv' hlt
    · rw [hi] at hj; cases hj; rw [hdst] at ht; cases ht
  | some d =>
    refine ⟨h.defers, by simp [Act.put, h.size], fun j o' v' t hj ht hL hv' hlt => ?_, fun t ht => ?_⟩
    · by_cases hji : j = i
      · subst hji
        rw [hi] at hj
        cases hj
        rw [hdst] at ht
        cases ht
        rw [hv] at hv'
        cases hv'
        simp [Act.put, Array.getElem?_setIfInBounds, h.size, hlt]
      · have hne : d ≠ t := fun e => hd i j o o' t hi hj hji ht (by rw [hdst, e])
        rw [show (b.put (some d) v).tmps[t]? = b.tmps[t]? by simp [Act.put, Array.getElem?_setIfInBounds_ne hne]]
        exact h.done j o' v' t hj ht (hL.resolve_right hji) hv' hlt
    · have hne : d ≠ t := fun e => ht i o hi (.inr rfl) (by rw [hdst, e])
      rw [show (b.put (some d) v).tmps[t]? = b.tmps[t]? by simp [Act.put, Array.getElem?_setIfInBounds_ne hne]]
      exact h.rest t (fun j o' hj hL => ht j o' hj (.inl hL))
/-- Two acts with the same put agree where both have all that one looks at. -/
theorem PutInv.agree {vs : List Value} {a b b' : Act} {L L' : Nat → Prop} (h : PutInv ops vs a b L) (h' : PutInv ops vs a b' L') (hv : ∀ j, j < ops.size → ∃ v, vs[j]? = some v) (t : Nat)
    (hT : ∀ (j : Nat) (o : Oper), ops[j]? = some o → o.dst = some t → (L j ∧ L' j) ∨ (¬ L j ∧ ¬ L' j)) (hu : ∀ (i j : Nat) (oi oj : Oper), ops[i]? = some oi → ops[j]? = some oj → oi.dst = some t → oj.dst = some t → i = j) : b.tmps[t]? = b'.tmps[t]? := by
  rcases Nat.lt_or_ge t a.tmps.size with hlt | hge
  · by_cases hex : ∃ j o, ops[j]? = some o ∧ o.dst = some t ∧ L j
    · obtain ⟨j, o, hj, hd, hL⟩ := hex
      obtain ⟨v, hvj⟩ := hv j (Array.getElem?_eq_some_iff.1 hj).1
      have hL' := ((hT j o hj hd).resolve_right (fun h => h.1 hL)).2
      rw [h.done j o v t hj hd hL hvj hlt, h'.done j o v t hj hd hL' hvj hlt]
    · rw [h.rest t (fun j o hj hL hd => hex ⟨j, o, hj, hd, hL⟩), h'.rest t (fun j o hj hL' hd => by
        rcases hT j o hj hd with h1 | h1
        · exact hex ⟨j, o, hj, hd, h1.1⟩
        · exact h1.2 hL')]
  · rw [Array.getElem?_eq_none (by rw [h.size]; exact hge), Array.getElem?_eq_none (by rw [h'.size]; exact hge)]
theorem put_turn {a b : Act} {x : Option Tmp} {u v : Value} (hs : b.tmps.size = a.tmps.size) (h : a.put x u = a.put x v) : b.put x u = b.put x v := by
  cases x with
  | none => rfl
  | some d =>
    rcases Nat.lt_or_ge d a.tmps.size with hlt | hge
    · have h2 := congrArg (fun z : Act => z.tmps[d]?) h
      simp [Act.put, Array.getElem?_setIfInBounds, hlt] at h2
      rw [h2]
    · simp [Act.put, Array.setIfInBounds, Nat.not_lt.2 (hs ▸ hge)]
theorem fix_parts {k : Act → Prop} : ∀ (l : List Oper) (a : Act), wpFix P ops S k l a → ∃ (vs : List Value) (acts : Nat → Act), vs.length = l.length ∧ acts 0 = a ∧
    (∀ (i : Nat) (o : Oper) (v : Value), l[i]? = some o → vs[i]? = some v → Keeps P ops S o v (acts i) ∧ acts (i + 1) = (acts i).put o.dst v) ∧ k (acts l.length)
  | [], a, h => ⟨[], fun _ => a, rfl, rfl, fun i o v h => by simp at h, h⟩
  | o :: l, a, h => by
    obtain ⟨v, h1, h2⟩ := h
    obtain ⟨vs, acts, e1, e2, e3, e4⟩ := fix_parts l _ h2
    refine ⟨v :: vs, fun i => match i with | 0 => a | i + 1 => acts i, by simp [e1], rfl, fun i o' v' hi hv => ?_, e4⟩
    cases i with
    | zero =>
      simp only [List.getElem?_cons_zero, Option.some.injEq] at hi hv
      subst hi hv
      exact ⟨h1, e2⟩
    | succ i => exact e3 i o' v' (by simpa using hi) (by simpa using hv)
theorem Keeps.turn {o : Oper} {v : Value} {a b : Act} (h : Keeps P ops S o v a) (he : execOp b.eval o = execOp a.eval o) (hw : Region.wanted o (yielded ops b.tmps) = Region.wanted o (yielded ops a.tmps)) (hs : b.tmps.size = a.tmps.size) (hd : b.defers = a.defers)
    {i : Nat} (hi : ops[i]? = some o) {w : World} (hS : S w) {K : Act → World → Prop} (hK : ∀ w', S w' → K (b.put o.dst v) w') : wpOp P ops Q i K b w := by
  unfold Go.wpOp
  simp only [hi]
  rcases h with ⟨h1, h2⟩ | ⟨h1, rfl⟩
  · rw [if_pos (by rw [hw]; exact h1)]
    left
    have h3 := h2 w hS (fun c w' => c = a.put o.dst v ∧ S w') (fun _ _ _ => False) (fun w' h => ⟨rfl, h⟩)
    unfold Oper.wp at h3 ⊢
    rw [he]
    generalize (execOp a.eval o).run P w = r at *
    have turn : ∀ u w', a.put o.dst u = a.put o.dst v ∧ S w' → K (b.put o.dst u) w' := fun u w' hh => by rw [put_turn hs hh.1]; exact hK w' hh.2
    cases r with
    | ok n w' =>
      cases n with
      | value u => exact turn u w' h3
      | skip => exact turn _ w' h3
      | defer d => exact absurd (congrArg (fun z : Act => z.defers.length) h3.1) (by cases o.dst <;> simp [Act.put])
      | enter f args => exact Calls.mono h3 (fun e w'' hh => by
          cases e with
          | returned u => exact turn u w'' hh
          | panicked c => exact hh.elim
          | outgrown =>
            obtain ⟨_, _, hx⟩ := hh
            exact hx.elim)
      | row row args => exact Rows.mono h3 (fun u w'' hh => turn u w'' hh)
      | _ => exact h3.elim
    | halt x w' => cases x <;> exact h3.elim
  · rw [if_neg (by rw [hw, h1]; simp)]
    exact hK w hS
theorem getD_bool {L : Array Bool} {i : Nat} (h : i < L.size) (b : Bool) : L.getD i b = L[i] := by simp [Array.getD, h]
theorem countP_less {p q : Nat → Bool} (hpq : ∀ i, q i = true → p i = true) {i : Nat} (hp : p i = true) (hq : q i = false) : ∀ l : List Nat, i ∈ l → l.countP q < l.countP p
  | [], h => by cases h
  | x :: l, h => by
    have mono : l.countP q ≤ l.countP p := List.countP_mono_left (fun y _ hy => hpq y hy)
    by_cases hx : x = i
    · subst hx
      rw [List.countP_cons_of_pos hp, List.countP_cons_of_neg (by simp [hq])]
      omega
    · have hi : i ∈ l := by
        rcases List.mem_cons.1 h with h | h
        · exact absurd h.symm hx
        · exact h
      have := countP_less hpq hp hq l hi
      rw [List.countP_cons, List.countP_cons]
      have hle : (if q x = true then 1 else 0) ≤ (if p x = true then 1 else 0) := by
        cases hqx : q x with
        | false => simp
        | true => simp [hpq x hqx]
      omega

theorem any_of_fix {a : Act} {vs : List Value} {acts : Nat → Act} (hB : fixB ops = true) (hl : vs.length = ops.size) (h0 : acts 0 = a)
    (hk : ∀ (i : Nat) (o : Oper) (v : Value), ops[i]? = some o → vs[i]? = some v → Keeps P ops S o v (acts i) ∧ acts (i + 1) = (acts i).put o.dst v) (hend : ∀ w, S w → Q .normal (acts ops.size) w) :
    ∀ (fuel : Nat) (listed : Array Bool) (b : Act) (w : World), listed.size = ops.size → PutInv ops vs a b (fun j => listed.getD j false = true) → S w → (List.range ops.size).countP (fun i => !listed.getD i true) ≤ fuel → wpAny P .any ops Q fuel listed b w := by
  obtain ⟨hns, hb1, hb2, hb3⟩ := fixB_spec hB
  have lt : ∀ {i : Nat} {o : Oper}, ops[i]? = some o → i < ops.size := fun h => (Array.getElem?_eq_some_iff.1 h).1
  have hv : ∀ j, j < ops.size → ∃ v, vs[j]? = some v := fun j hj => ⟨_, List.getElem?_eq_getElem (by omega)⟩
  have hpre : ∀ i, i ≤ ops.size → PutInv ops vs a (acts i) (fun j => j < i) := by
    intro i
    induction i with
    | zero => intro _; rw [h0]; exact ⟨rfl, rfl, fun _ _ _ _ _ _ h => absurd h (by omega), fun _ _ => rfl⟩
    | succ i ih =>
      intro hi
      obtain ⟨v, hvi⟩ := hv i (by omega)
      have hoi := Array.getElem?_eq_getElem (xs := ops) (i := i) (by omega)
      rw [(hk i _ v hoi hvi).2]
      have := (ih (by omega)).put hb2 hoi hvi
      exact ⟨this.defers, this.size, fun j o v t h1 h2 h3 h4 h5 => this.done j o v t h1 h2 (by omega) h4 h5, fun t ht => this.rest t (fun j o h1 h2 => ht j o h1 (by omega))⟩
  have huq : ∀ t, ∀ (i j : Nat) (oi oj : Oper), ops[i]? = some oi → ops[j]? = some oj → oi.dst = some t → oj.dst = some t → i = j := fun t i j oi oj hi hj h1 h2 => by
    rcases Nat.decEq j i with h | h
    · exact absurd h1 (hb2 i j oi oj t hi hj h h2)
    · exact h.symm
  have final : ∀ (listed : Array Bool) (b : Act) (w : World), listed.size = ops.size → PutInv ops vs a b (fun j => listed.getD j false = true) → S w → (∀ i, i < ops.size → listed.getD i false = true) → Q .normal b w := fun listed b w hsz hI hS hall => by
    have e : b = acts ops.size := by
      have h1 := hpre ops.size (Nat.le_refl _)
      have ht : b.tmps = (acts ops.size).tmps := Array.ext_getElem? (fun t => hI.agree h1 hv t (fun j o hj _ => .inl ⟨hall j (lt hj), lt hj⟩) (huq t))
      have hd : b.defers = (acts ops.size).defers := hI.defers.trans h1.defers.symm
      generalize acts ops.size = c at *
      cases b
      cases c
      simp only at ht hd
      rw [ht, hd]
    rw [e]
    exact hend w hS
  have done : ∀ (listed : Array Bool), listed.size = ops.size → Region.ready .any ops listed = [] → ∀ i, i < ops.size → listed.getD i false = true := fun listed hsz hr => by
    intro i
    induction i using Nat.strongRecOn with
    | _ i ih =>
      intro hi
      cases hc : listed.getD i false with
      | true => rfl
      | false =>
        exfalso
        have hoi := Array.getElem?_eq_getElem (xs := ops) (i := i) hi
        have : i ∈ Region.ready .any ops listed := mem_ready.2 ⟨by rw [getD_bool (by omega)] at hc ⊢; exact hc, _, hoi, fun e he hb => by
          have h1 := hb1 i _ hoi e he hb
          exact ih e.on h1 (by omega)⟩
        rw [hr] at this
        cases this
  intro fuel
  induction fuel with
  | zero =>
    intro listed b w hsz hI hS hc
    have hall : ∀ i, i < ops.size → listed.getD i false = true := fun i hi => by
      have h1 : (List.range ops.size).countP (fun i => !listed.getD i true) = 0 := by omega
      have h2 := List.countP_eq_zero.1 h1 i (List.mem_range.2 hi)
      rw [getD_bool (by omega)] at h2 ⊢
      simpa using h2
    refine ⟨?_, final listed b w hsz hI hS hall⟩
    cases hr : Region.ready .any ops listed with
    | nil => rfl
    | cons x r =>
      exfalso
      have hx : x ∈ Region.ready .any ops listed := by rw [hr]; simp
      obtain ⟨h1, o, ho, _⟩ := mem_ready.1 hx
      have h2 := hall x (lt ho)
      rw [getD_bool (by rw [hsz]; exact lt ho)] at h1 h2
      rw [h1] at h2
      cases h2
  | succ fuel ih =>
    intro listed b w hsz hI hS hc
    refine ⟨fun hr => final listed b w hsz hI hS (done listed hsz hr), fun i hi => ?_⟩
    obtain ⟨h1, o, ho, h2⟩ := mem_ready.1 hi
    have hil : i < listed.size := by rw [hsz]; exact lt ho
    obtain ⟨v, hvi⟩ := hv i (lt ho)
    obtain ⟨hK, _⟩ := hk i o v ho hvi
    have hp := hpre i (Nat.le_of_lt (lt ho))
    have agree : ∀ t ∈ o.looksAt ops, b.tmps[t]? = (acts i).tmps[t]? := fun t ht => hI.agree hp hv t (fun j oj hj hd => by
      by_cases hji : j = i
      · subst hji
        refine .inr ⟨?_, by omega⟩
        rw [getD_bool hil] at h1 ⊢
        rw [h1]
        simp
      · obtain ⟨h3, e, he, hb, hon⟩ := hb3 i j o oj t ho hj hji hd ht
        refine .inl ⟨?_, h3⟩
        rw [← hon]
        exact h2 e he hb) (huq t)
    have he : execOp b.eval o = execOp (acts i).eval o := execOp_congr o (Region.noSelect_spec hns i o · · ho) (fun x hx => by
      cases x with
      | tmp t =>
        have := agree t (List.mem_append_left _ (List.mem_filterMap.2 ⟨.tmp t, by simpa using hx, rfl⟩))
        simp [Act.eval, this]
      | _ => rfl)
    have hw : Region.wanted o (yielded ops b.tmps) = Region.wanted o (yielded ops (acts i).tmps) := by
      unfold Region.wanted
      cases hg : o.guard with
      | none => rfl
      | some gw =>
        obtain ⟨g, want⟩ := gw
        have hy : yielded ops b.tmps g = yielded ops (acts i).tmps g := by
          unfold yielded
          cases ht : (ops[g]?).bind (·.dst) with
          | none => rfl
          | some t =>
            have := agree t (by simp [Oper.looksAt, hg, ht])
            simp [this]
        simp only [hy]
    refine hK.turn he hw (hI.size.trans hp.size.symm) (hI.defers.trans hp.defers.symm) ho hS (fun w' hS' => ?_)
    refine ih (listed.setIfInBounds i true) (b.put o.dst v) w' (by simp [hsz]) ?_ hS' ?_
    · have := hI.put hb2 ho hvi
      have hget : ∀ j, (listed.setIfInBounds i true).getD j false = true ↔ listed.getD j false = true ∨ j = i := fun j => by
        by_cases hji : j = i
        · subst hji
          simp [Array.getD, hil]
        · rw [getD_set_ne false (Ne.symm hji)]
          simp [hji]
      exact ⟨this.defers, this.size, fun j o v t g1 g2 g3 g4 g5 => this.done j o v t g1 g2 ((hget j).1 g3) g4 g5, fun t ht => this.rest t (fun j o g1 g2 => ht j o g1 ((hget j).2 g2))⟩
    · have := countP_less (p := fun j => !listed.getD j true) (q := fun j => !(listed.setIfInBounds i true).getD j true) (i := i) (fun j hj => by
        by_cases hji : j = i
        · subst hji; simp [h1]
        · rw [getD_set_ne true (Ne.symm hji)] at hj
          exact hj) (by simp [h1]) (by simp [Array.getD, hil]) (List.range ops.size) (List.mem_range.2 (lt ho))
      omega

theorem wp_region_fix {id : Nat} {a : Act} {w : World} {l : List Oper} (hm : P.follows .mixedOrders = true) (hB : fixB l.toArray = true) (hS : S w.drew)
    (h : wpFix P l.toArray S (fun T => ∀ w, S w → Q .normal T w) l a) : (Code.region id l.toArray true).wp P Q a w := by
  obtain ⟨vs, acts, e1, e2, e3, e4⟩ := fix_parts l a h
  refine wp_region_any hm (any_of_fix (S := S) (vs := vs) (acts := acts) hB (by simpa using e1) e2 (fun i o v hi hv => e3 i o v (by simpa using hi) hv) (by simpa using e4) _ _ a _ (by simp) ?_ hS ?_)
  · refine ⟨rfl, rfl, fun j o v t h1 h2 h3 => ?_, fun _ _ => rfl⟩
    simp [Array.getD] at h3
  · exact Nat.le_trans List.countP_le_length (by simp)

theorem wpFix_nil {k : Act → Prop} {a : Act} (h : k a) : wpFix P ops S k [] a := h
theorem wpFix_pure {k : Act → Prop} {o : Oper} {rest : List Oper} {a : Act} {v : Value} (hw : Region.wanted o (yielded ops a.tmps) = true) (hy : ∀ w, S w → (execOp a.eval o).run P w = .ok (.value v) w) (h : wpFix P ops S k rest (a.put o.dst v)) : wpFix P ops S k (o :: rest) a :=
  ⟨v, .inl ⟨hw, fun w hS K Q hK => by unfold Oper.wp; rw [hy w hS]; exact hK w hS⟩, h⟩
theorem wpFix_un {k : Act → Prop} {o : Oper} {rest : List Oper} {a : Act} (hw : Region.wanted o (yielded ops a.tmps) = false) (h : wpFix P ops S k rest (a.put o.dst undef)) : wpFix P ops S k (o :: rest) a := ⟨undef, .inr ⟨hw, rfl⟩, h⟩
theorem wpFix_call {k : Act → Prop} {o : Oper} {rest : List Oper} {a : Act} (v : Value) (hw : Region.wanted o (yielded ops a.tmps) = true) (hy : ∀ w, S w → ∀ (K : Act → World → Prop) (Q : Exit → Act → World → Prop), (∀ w', S w' → K (a.put o.dst v) w') → o.wp P a w K Q) (h : wpFix P ops S k rest (a.put o.dst v)) : wpFix P ops S k (o :: rest) a :=
  ⟨v, .inl ⟨hw, hy⟩, h⟩
end
end Go.Proofs.YtamclieppbnpiabGreatDoor
