/-
  A law for a region that draws its order: the first n operations yield, in every world that meets S, a value of their own and leave the world; the others come up in one order only, and S holds behind each: then ONE walk, in the order of the text, serves every order. No program here.
-/
import Derived.OrdersHeld
import Derived.Tactics
import Derived.Laws.World
import Derived.ScopeJumps
import Derived.WalkMore
import Derived.Laws.StructEq
import Derived.Deep.Draws
set_option linter.unusedSimpArgs false
set_option linter.unusedVariables false
namespace Go.Proofs.YtamclieppbnpiabGreatDoor
open Go

section
variable {P : Program} {ops : Array Oper} {Q : Exit → Act → World → Prop} {S : World → Prop}

/-- The first i operations have come up. -/
def listAt (sz : Nat) : Nat → Array Bool
  | 0 => Array.replicate sz false
  | i + 1 => (listAt sz i).setIfInBounds i true

/-- The closed fact of the law. -/
def headB (ops : Array Oper) (n : Nat) : Bool :=
  Region.noSelect ops && decide (n ≤ ops.size) && (List.range n).all (fun i => Region.free .any ops (listAt ops.size i) i && (Region.ready .any ops (listAt ops.size i)).contains i) &&
    (List.range (ops.size - n)).all (fun j => Region.ready .any ops (listAt ops.size (n + j)) == [n + j]) && (Region.ready .any ops (listAt ops.size ops.size) == [])

def wpHead (P : Program) (ops : Array Oper) (S : World → Prop) : List Oper → (Act → Prop) → Act → Prop
  | [], k, a => k a
  | o :: rest, k, a => ∃ v, YieldsIf P ops S o v a ∧ wpHead P ops S rest k (a.put o.dst v)

def wpTail (P : Program) (ops : Array Oper) (Q : Exit → Act → World → Prop) (S : World → Prop) : List Oper → Act → World → Prop
  | [], a, w => Q .normal a w
  | o :: rest, a, w =>
    if Region.wanted o (yielded ops a.tmps) then o.wp P a w (fun a' w' => S w' ∧ wpTail P ops Q S rest a' w') Q ∨ (o.asks P a w ∧ LetsOut Q)
    else S w ∧ wpTail P ops Q S rest (a.put o.dst undef) w

theorem wpHead_nil {k : Act → Prop} {a : Act} (h : k a) : wpHead P ops S [] k a := h
theorem wpHead_step {o : Oper} {rest : List Oper} {k : Act → Prop} {a : Act} {v : Value} (hg : o.guard = none)
    (hy : ∀ w, S w → (execOp a.eval o).run P w = .ok (.value v) w) (h : wpHead P ops S rest k (a.put o.dst v)) : wpHead P ops S (o :: rest) k a :=
  ⟨v, .inl ⟨by simp [Region.wanted, hg], hy⟩, h⟩

theorem wpTail_nil {a : Act} {w : World} (h : Q .normal a w) : wpTail P ops Q S [] a w := h
theorem wpTail_step {o : Oper} {rest : List Oper} {a : Act} {w : World} (hg : o.guard = none)
    (h : ∀ K : Act → World → Prop, (∀ a w, S w → wpTail P ops Q S rest a w → K a w) → o.wp P a w K Q) : wpTail P ops Q S (o :: rest) a w := by
  unfold wpTail
  rw [if_pos (by simp [Region.wanted, hg])]
  exact .inl (h _ fun _ _ h1 h2 => ⟨h1, h2⟩)

theorem tail_any {l : List Oper} (_ : ops = l.toArray) (n : Nat)
    (hr : ∀ j, j < ops.size - n → Region.ready .any ops (listAt ops.size (n + j)) = [n + j]) (he : Region.ready .any ops (listAt ops.size ops.size) = []) :
    ∀ (rest : List Oper) (i : Nat) (a : Act) (w : World), n ≤ i → i + rest.length = ops.size → (∀ j, rest[j]? = ops[i + j]?) → wpTail P ops Q S rest a w →
      wpAnyH P .any ops Q S (ops.size - i) (listAt ops.size i) a w := by
  intro rest
  induction rest with
  | nil =>
    intro i a w _ hi _ h
    have : i = ops.size := by simpa using hi
    subst this
    exact wpAnyH_done he h _
  | cons o rest ih =>
    intro i a w hni hi hget h
    simp only [List.length_cons] at hi
    have e : ops.size - i = (ops.size - (i + 1)) + 1 := by omega
    rw [e]
    have hri : Region.ready .any ops (listAt ops.size i) = [i] := by
      have := hr (i - n) (by omega)
      rwa [show n + (i - n) = i by omega] at this
    refine wpAnyH_all hri (by simp) fun j hj => ?_
    have hj' : j = i := by simpa using hj
    subst hj'
    have ho : ops[j]? = some o := by simpa using (hget 0).symm
    have next : ∀ a' w', S w' ∧ wpTail P ops Q S rest a' w' → S w' ∧ wpAnyH P .any ops Q S (ops.size - (j + 1)) ((listAt ops.size j).setIfInBounds j true) a' w' := fun a' w' hh =>
      ⟨hh.1, ih (j + 1) a' w' (by omega) (by omega) (fun m => by have := hget (m + 1); simpa [Nat.add_assoc, Nat.add_comm 1 m] using this) hh.2⟩
    refine wpOp_mono next ?_
    unfold wpOp
    simp only [ho]
    exact h

theorem head_any {l : List Oper} (_ : ops = l.toArray) (n : Nat) (hs : Region.noSelect ops = true) (hQ : ∀ c a (d : Nat) v w, Q (.panic c) (Act.put a (some d) v) w → Q (.panic c) a w)
    (hf : ∀ i, i < n → Region.free .any ops (listAt ops.size i) i = true ∧ (Region.ready .any ops (listAt ops.size i)).contains i = true) (hn : n ≤ ops.size) {w : World} (hS : S w) {k : Act → Prop}
    (hk : ∀ a, k a → wpAnyH P .any ops Q S (ops.size - n) (listAt ops.size n) a w) :
    ∀ (rest : List Oper) (i : Nat) (a : Act), i + rest.length = n → (∀ j, j < rest.length → rest[j]? = ops[i + j]?) → wpHead P ops S rest k a → wpAnyH P .any ops Q S (ops.size - i) (listAt ops.size i) a w := by
  intro rest
  induction rest with
  | nil =>
    intro i a hi _ h
    have : i = n := by simpa using hi
    subst this
    exact hk a h
  | cons o rest ih =>
    intro i a hi hget h
    simp only [List.length_cons] at hi
    obtain ⟨v, hy, h'⟩ := h
    have e : ops.size - i = (ops.size - (i + 1)) + 1 := by omega
    rw [e]
    have ho : ops[i]? = some o := by simpa using (hget 0 (by simp)).symm
    obtain ⟨hf1, hf2⟩ := hf i (by omega)
    exact wpAnyH_take ho hs hf1 hf2 (fun c a w => by cases hd : o.dst with | none => exact id | some d => exact hQ c a d v w) hy hS
      (ih (i + 1) _ (by omega) (fun m hm => by have := hget (m + 1) (by simp; omega); simpa [Nat.add_assoc, Nat.add_comm 1 m] using this) h')

theorem any_of_head {a : Act} {w : World} {l : List Oper} (n : Nat) (hB : headB l.toArray n = true)
    (hQ : ∀ c a (d : Nat) v w, Q (.panic c) (Act.put a (some d) v) w → Q (.panic c) a w) (hS : S w.drew)
    (h : wpHead P l.toArray S (l.take n) (fun a' => wpTail P l.toArray Q S (l.drop n) a' w.drew) a) : wpAny P .any l.toArray Q l.toArray.size (Array.replicate l.toArray.size false) a { w with drawn := w.drawn + 1 } := by
  simp only [headB, Bool.and_eq_true, decide_eq_true_eq, List.all_eq_true, List.mem_range, beq_iff_eq] at hB
  obtain ⟨⟨⟨⟨hs, hn⟩, hf⟩, hr⟩, he⟩ := hB
  refine wpAny_of_held (S := S) _ _ _ _ ?_
  have hnl : n ≤ l.length := by simpa using hn
  have hlen : (l.take n).length = n := by simp; omega
  refine head_any (l := l) rfl n hs hQ hf hn hS (k := fun a' => wpTail P l.toArray Q S (l.drop n) a' w.drew) (fun a' ha' => ?_) (l.take n) 0 a (by omega) (fun j hj => ?_) h
  · refine tail_any (l := l) rfl n hr he (l.drop n) n a' _ (Nat.le_refl _) (by simp; omega) (fun j => by simp) ha'
  · rw [hlen] at hj
    simp [hj]

theorem wp_region_head {id : Nat} {a : Act} {w : World} {l : List Oper} (n : Nat) (hm : P.follows .mixedOrders = true) (hB : headB l.toArray n = true)
    (hQ : ∀ c a (d : Nat) v w, Q (.panic c) (Act.put a (some d) v) w → Q (.panic c) a w) (hS : S w.drew)
    (h : wpHead P l.toArray S (l.take n) (fun a' => wpTail P l.toArray Q S (l.drop n) a' w.drew) a) : (Code.region id l.toArray true).wp P Q a w :=
  wp_region_any hm (any_of_head n hB hQ hS h)

/-! ### The same, the operations taken in an order of one's own -/

def pick (ops : Array Oper) (is : List Nat) : List Oper := is.filterMap fun i => ops[i]?
def behind_ : List Nat → Array Bool → Array Bool
  | [], ls => ls
  | i :: is, ls => behind_ is (ls.setIfInBounds i true)
def headOK (ops : Array Oper) : List Nat → Array Bool → Bool
  | [], _ => true
  | i :: is, ls => Region.free .any ops ls i && (Region.ready .any ops ls).contains i && headOK ops is (ls.setIfInBounds i true)
def tailOK (ops : Array Oper) : List Nat → Array Bool → Bool
  | [], ls => Region.ready .any ops ls == []
  | i :: is, ls => Region.ready .any ops ls == [i] && tailOK ops is (ls.setIfInBounds i true)
def ordB (ops : Array Oper) (hs ts : List Nat) : Bool :=
  Region.noSelect ops && decide (hs.length + ts.length = ops.size) && headOK ops hs (Array.replicate ops.size false) && tailOK ops ts (behind_ hs (Array.replicate ops.size false))

theorem tailO_any : ∀ (is : List Nat) (ls : Array Bool) (a : Act) (w : World), tailOK ops is ls = true → wpTail P ops Q S (pick ops is) a w → wpAnyH P .any ops Q S is.length ls a w
  | [], ls, a, w, ht, h => by
    simp only [tailOK, beq_iff_eq] at ht
    exact wpAnyH_done ht h _
  | i :: is, ls, a, w, ht, h => by
    simp only [tailOK, Bool.and_eq_true, beq_iff_eq] at ht
    refine wpAnyH_all ht.1 (by simp) fun j hj => ?_
    have hj' : j = i := by simpa using hj
    subst hj'
    have hjr : j ∈ Region.ready .any ops ls := by rw [ht.1]; simp
    obtain ⟨_, o, ho, _⟩ := mem_ready.1 hjr
    have ep : pick ops (j :: is) = o :: pick ops is := by simp [pick, ho]
    rw [ep] at h
    refine wpOp_mono (K := fun a' w' => S w' ∧ wpTail P ops Q S (pick ops is) a' w') (fun a' w' hh => ⟨hh.1, tailO_any is _ a' w' ht.2 hh.2⟩) ?_
    unfold wpOp
    simp only [ho]
    exact h

theorem headO_any (hs : Region.noSelect ops = true) (hQ : ∀ c a (d : Nat) v w, Q (.panic c) (Act.put a (some d) v) w → Q (.panic c) a w) {w : World} (hS : S w) {k : Act → Prop} {f : Nat} :
    ∀ (is : List Nat) (ls : Array Bool) (a : Act), headOK ops is ls = true → (∀ a, k a → wpAnyH P .any ops Q S f (behind_ is ls) a w) → wpHead P ops S (pick ops is) k a → wpAnyH P .any ops Q S (f + is.length) ls a w
  | [], ls, a, _, hk, h => hk a h
  | i :: is, ls, a, ht, hk, h => by
    simp only [headOK, Bool.and_eq_true] at ht
    obtain ⟨⟨hf, hr⟩, ht⟩ := ht
    cases ho : ops[i]? with
    | none => simp [Region.free, ho] at hf
    | some o =>
      have ep : pick ops (i :: is) = o :: pick ops is := by simp [pick, ho]
      rw [ep] at h
      obtain ⟨v, hy, h'⟩ := h
      exact wpAnyH_take ho hs hf hr (fun c a w => by cases hd : o.dst with | none => exact id | some d => exact hQ c a d v w) hy hS (headO_any hs hQ hS is _ _ ht hk h')

theorem any_of_ord {a : Act} {w : World} {l : List Oper} (hs ts : List Nat) (hB : ordB l.toArray hs ts = true)
    (hQ : ∀ c a (d : Nat) v w, Q (.panic c) (Act.put a (some d) v) w → Q (.panic c) a w) (hS : S w.drew)
    (h : wpHead P l.toArray S (pick l.toArray hs) (fun a' => wpTail P l.toArray Q S (pick l.toArray ts) a' w.drew) a) : wpAny P .any l.toArray Q l.toArray.size (Array.replicate l.toArray.size false) a { w with drawn := w.drawn + 1 } := by
  simp only [ordB, Bool.and_eq_true, decide_eq_true_eq] at hB
  obtain ⟨⟨⟨hn, hl⟩, h1⟩, h2⟩ := hB
  have e : l.toArray.size = ts.length + hs.length := by omega
  refine wpAny_of_held (S := S) _ _ _ _ ?_
  rw [e] at h1 h2 ⊢
  exact headO_any hn hQ hS (k := fun a' => wpTail P l.toArray Q S (pick l.toArray ts) a' w.drew) hs _ a h1 (fun a' ha' => tailO_any ts _ a' _ h2 ha') h

theorem wp_region_ord {id : Nat} {a : Act} {w : World} {l : List Oper} (hs ts : List Nat) (hm : P.follows .mixedOrders = true) (hB : ordB l.toArray hs ts = true)
    (hQ : ∀ c a (d : Nat) v w, Q (.panic c) (Act.put a (some d) v) w → Q (.panic c) a w) (hS : S w.drew)
    (h : wpHead P l.toArray S (pick l.toArray hs) (fun a' => wpTail P l.toArray Q S (pick l.toArray ts) a' w.drew) a) : (Code.region id l.toArray true).wp P Q a w :=
  wp_region_any hm (any_of_ord hs ts hB hQ hS h)
/-! ### Four parts: free ones, forced ones, free ones again, forced ones -/

def wpTailK (P : Program) (ops : Array Oper) (Q : Exit → Act → World → Prop) (S : World → Prop) (k : Act → World → Prop) : List Oper → Act → World → Prop
  | [], a, w => k a w
  | o :: rest, a, w =>
    if Region.wanted o (yielded ops a.tmps) then o.wp P a w (fun a' w' => S w' ∧ wpTailK P ops Q S k rest a' w') Q ∨ (o.asks P a w ∧ LetsOut Q)
    else S w ∧ wpTailK P ops Q S k rest (a.put o.dst undef) w

theorem wpTailK_nil {k : Act → World → Prop} {a : Act} {w : World} (h : k a w) : wpTailK P ops Q S k [] a w := h
theorem wpTailK_step {k : Act → World → Prop} {o : Oper} {rest : List Oper} {a : Act} {w : World} (hg : o.guard = none)
    (h : ∀ K : Act → World → Prop, (∀ a w, S w → wpTailK P ops Q S k rest a w → K a w) → o.wp P a w K Q) : wpTailK P ops Q S k (o :: rest) a w := by
  unfold wpTailK
  rw [if_pos (by simp [Region.wanted, hg])]
  exact .inl (h _ fun a w hs hr => ⟨hs, hr⟩)

def tailKOK (ops : Array Oper) : List Nat → Array Bool → Bool
  | [], _ => true
  | i :: is, ls => Region.ready .any ops ls == [i] && tailKOK ops is (ls.setIfInBounds i true)

theorem tailK_any {k : Act → World → Prop} {f : Nat} : ∀ (is : List Nat) (ls : Array Bool) (a : Act) (w : World), tailKOK ops is ls = true → S w → (∀ a w, S w → k a w → wpAnyH P .any ops Q S f (behind_ is ls) a w) →
    wpTailK P ops Q S k (pick ops is) a w → wpAnyH P .any ops Q S (f + is.length) ls a w
  | [], ls, a, w, _, hS, hk, h => hk a w hS h
  | i :: is, ls, a, w, ht, hS, hk, h => by
    simp only [tailKOK, Bool.and_eq_true, beq_iff_eq] at ht
    refine wpAnyH_all ht.1 (by simp) fun j hj => ?_
    have hj' : j = i := by simpa using hj
    subst hj'
    have hjr : j ∈ Region.ready .any ops ls := by rw [ht.1]; simp
    obtain ⟨_, o, ho, _⟩ := mem_ready.1 hjr
    have ep : pick ops (j :: is) = o :: pick ops is := by simp [pick, ho]
    rw [ep] at h
    refine wpOp_mono (K := fun a' w' => S w' ∧ wpTailK P ops Q S k (pick ops is) a' w') (fun a' w' hh => ⟨hh.1, tailK_any is _ a' w' ht.2 hh.1 hk hh.2⟩) ?_
    unfold wpOp
    simp only [ho]
    exact h

def fourB (ops : Array Oper) (hs ts us vs : List Nat) : Bool :=
  Region.noSelect ops && decide (vs.length + us.length + ts.length + hs.length = ops.size) && headOK ops hs (Array.replicate ops.size false) && tailKOK ops ts (behind_ hs (Array.replicate ops.size false)) &&
    headOK ops us (behind_ ts (behind_ hs (Array.replicate ops.size false))) && tailOK ops vs (behind_ us (behind_ ts (behind_ hs (Array.replicate ops.size false))))

theorem any_of_four {a : Act} {w : World} {l : List Oper} (hs ts us vs : List Nat) (hB : fourB l.toArray hs ts us vs = true)
    (hQ : ∀ c a (d : Nat) v w, Q (.panic c) (Act.put a (some d) v) w → Q (.panic c) a w) (hS : S w.drew)
    (h : wpHead P l.toArray S (pick l.toArray hs) (fun a' => wpTailK P l.toArray Q S (fun a2 w2 => wpHead P l.toArray S (pick l.toArray us) (fun a3 => wpTail P l.toArray Q S (pick l.toArray vs) a3 w2) a2) (pick l.toArray ts) a' w.drew) a) :
    wpAny P .any l.toArray Q l.toArray.size (Array.replicate l.toArray.size false) a { w with drawn := w.drawn + 1 } := by
  simp only [fourB, Bool.and_eq_true, decide_eq_true_eq] at hB
  obtain ⟨⟨⟨⟨⟨hn, hl⟩, h1⟩, h2⟩, h3⟩, h4⟩ := hB
  refine wpAny_of_held (S := S) _ _ _ _ ?_
  rw [← hl] at h1 h2 h3 h4 ⊢
  exact headO_any hn hQ hS hs _ a h1 (fun a' ha' => tailK_any (f := vs.length + us.length) ts _ a' _ h2 hS (fun a2 w2 hS2 hk2 => headO_any hn hQ hS2 us _ a2 h3 (fun a3 ha3 => tailO_any vs _ a3 _ h4 ha3) hk2) ha') h

theorem wp_region_four {id : Nat} {a : Act} {w : World} {l : List Oper} (hs ts us vs : List Nat) (hm : P.follows .mixedOrders = true) (hB : fourB l.toArray hs ts us vs = true)
    (hQ : ∀ c a (d : Nat) v w, Q (.panic c) (Act.put a (some d) v) w → Q (.panic c) a w) (hS : S w.drew)
    (h : wpHead P l.toArray S (pick l.toArray hs) (fun a' => wpTailK P l.toArray Q S (fun a2 w2 => wpHead P l.toArray S (pick l.toArray us) (fun a3 => wpTail P l.toArray Q S (pick l.toArray vs) a3 w2) a2) (pick l.toArray ts) a' w.drew) a) : (Code.region id l.toArray true).wp P Q a w :=
  wp_region_any hm (any_of_four hs ts us vs hB hQ hS h)
end
/-- A scope through which the run goes forward: where it jumps to the label, the rest behind the label is walked at once. -/
theorem wp_scope_fwd {P : Program} {a : Act} {w : World} {Q : Exit → Act → World → Prop} {c rest : Code} (l : Nat) (hf : findLabel c l = some rest)
    (first : c.wp P (Exit.jump l (fun a' w' => rest.wp P (Exit.noGoto Q) a' w') Q) a w) : (Code.scope c).wp P Q a w :=
  wp_scope_jumps l _ (fun _ _ => 0) hf first fun _ _ hJ => Code.wp_mono (fun e _ _ q => by cases e <;> first | exact q | exact q.elim) hJ

theorem bytes_beq (a b : ByteArray) : (a.toList == b.toList) = decide (a = b) := by
  rw [← beq_toListBytes, Bool.eq_iff_iff]
  simp only [decide_eq_true_eq]
  rw [beq_toListBytes]
  simp only [beq_iff_eq, ByteArray.toList_eq]
  exact ⟨fun h => by obtain ⟨⟨x⟩⟩ := a; obtain ⟨⟨y⟩⟩ := b; simp at h; rw [h], fun h => by rw [h]⟩

theorem bytes_beq_no {a b : ByteArray} (h : a ≠ b) : (a.toList == b.toList) = false := by rw [bytes_beq]; simpa using h
theorem bytes_beq_yes {a b : ByteArray} (h : a = b) : (a.toList == b.toList) = true := by rw [bytes_beq]; simpa using h

/-- A contract that leaves the world, in a region that draws. -/
theorem quiet_eq {P : Program} {f : FuncId} {args : Array Value} {w : World} {n : Nat} {v : Value} (h : Calls P f args (w.drewN n) fun e w' => e = .returned v ∧ w.drewN n = w') :
    Calls P f args (w.drewN n) fun e w'' => e = .returned v ∧ ∃ m, w'' = w.drewN m :=
  h.mono fun _ _ ⟨he, hm⟩ => ⟨he, n, hm.symm⟩

end Go.Proofs.YtamclieppbnpiabGreatDoor
