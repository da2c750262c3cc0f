/-
  The law for a region that draws its order (see Reg), within a round of a range over a function. No program here.
-/
import Derived.Test.YtamclieppbnpiabGreatDoorReg
import Derived.CallsIn
import Derived.OrdersIn
import Derived.TacticsIn
import Derived.OwnWalkIn
import Derived.RangeFuncLeaves
set_option linter.unusedSimpArgs false
set_option linter.unusedVariables false
namespace Go.Proofs.YtamclieppbnpiabGreatDoor
open Go

section
variable {P : Program} {l n : Nat} {ops : Array Oper} {Q : Exit → Act → World → Prop}

theorem wpIn_of_wp_op {o : Oper} {a : Act} {w : World} {K : Act → World → Prop} (hnd : ∀ c, o.op ≠ .defer c) (h : o.wp P a w K Q) : o.wpIn (Fence.wide.inRound l) n P a w K Q := by
  refine ⟨fun _ _ => trivial, ?_⟩
  have e : (Fence.wide.inRound l).round = some l := rfl
  rw [e, Oper.semAt_some l a.eval o hnd]
  unfold Oper.wp at h
  generalize (execOp a.eval o).run P w = r at *
  cases r with
  | ok x w' =>
    cases x <;> simp only [Oper.upon, Oper.uponIn] at h ⊢
    case value => exact h
    case skip => exact h
    case defer => exact h
    case enter f args =>
      refine ⟨fun hd => (by cases hd), ?_⟩
      exact (callsIn_wide (n := n - 1)).2 (h.mono fun e w'' he => by cases e <;> exact he)
    case row row args =>
      refine ⟨fun hd => (by cases hd), ?_⟩
      intro c cs _
      obtain ⟨v, w2, hr, hs⟩ := h c cs
      exact ⟨v, w2, hr, stepsIn_wide.2 hs⟩
  | halt x w' =>
    cases x <;> simp only [Oper.upon, Oper.uponIn] at h ⊢
    case panic u => exact h

def noDefer (ops : Array Oper) : Bool := ops.toList.all fun o => match o.op with | .defer _ => false | _ => true
theorem noDefer_spec {ops : Array Oper} (h : noDefer ops = true) {i : Nat} {o : Oper} (ho : ops[i]? = some o) : ∀ c, o.op ≠ .defer c := by
  intro c hc
  have hm : o ∈ ops.toList := by
    rw [Array.mem_toList_iff]
    exact Array.mem_of_getElem? ho
  have := List.all_eq_true.1 h o hm
  rw [hc] at this
  cases this

theorem anyIn_of_any (hd : noDefer ops = true) (hO : ∀ a w, Q .outgrown a w → False) : ∀ (fuel : Nat) (listed : Array Bool) (a : Act) (w : World),
    wpAny P .any ops Q fuel listed a w → wpAnyIn (Fence.wide.inRound l) n P .any ops Q fuel listed a w
  | 0, _, _, _, h => h
  | fuel + 1, listed, a, w, h => by
    refine ⟨h.1, fun i hi => ?_⟩
    have h1 := h.2 i hi
    unfold wpOp at h1
    unfold wpOpIn
    cases ho : ops[i]? with
    | none => simp only [ho] at h1 ⊢; exact anyIn_of_any hd hO fuel _ a w h1
    | some o =>
      simp only [ho] at h1 ⊢
      split
      · rename_i hw
        simp only [hw, if_true] at h1
        rcases h1 with h1 | ⟨_, a', w', h2⟩
        · exact wpIn_of_wp_op (noDefer_spec hd ho) (Oper.wp_mono (fun a w => anyIn_of_any hd hO fuel _ a w) h1)
        · exact (hO _ _ h2).elim
      · rename_i hw
        simp only [hw] at h1
        exact ⟨fun _ _ => trivial, anyIn_of_any hd hO fuel _ _ w h1⟩

variable {S : World → Prop}
theorem wpIn_region_head {id : Nat} {a : Act} {w : World} {l' : List Oper} (k : Nat) (hm : P.follows .mixedOrders = true) (hB : headB l'.toArray k = true) (hd : noDefer l'.toArray = true)
    (hQ : ∀ c a (d : Nat) v w, Q (.panic c) (Act.put a (some d) v) w → Q (.panic c) a w) (hO : ∀ a w, Q .outgrown a w → False) (hS : S w.drew)
    (h : wpHead P l'.toArray S (l'.take k) (fun a' => wpTail P l'.toArray Q S (l'.drop k) a' w.drew) a) : (Code.region id l'.toArray true).wpIn (Fence.wide.inRound l) n P Q a w :=
  wpIn_region_any hm (anyIn_of_any hd hO _ _ _ _ (any_of_head k hB hQ hS h))

theorem wpIn_region_ord {id : Nat} {a : Act} {w : World} {l' : List Oper} (hs ts : List Nat) (hm : P.follows .mixedOrders = true) (hB : ordB l'.toArray hs ts = true) (hd : noDefer l'.toArray = true)
    (hQ : ∀ c a (d : Nat) v w, Q (.panic c) (Act.put a (some d) v) w → Q (.panic c) a w) (hO : ∀ a w, Q .outgrown a w → False) (hS : S w.drew)
    (h : wpHead P l'.toArray S (pick l'.toArray hs) (fun a' => wpTail P l'.toArray Q S (pick l'.toArray ts) a' w.drew) a) : (Code.region id l'.toArray true).wpIn (Fence.wide.inRound l) n P Q a w :=
  wpIn_region_any hm (anyIn_of_any hd hO _ _ _ _ (any_of_ord hs ts hB hQ hS h))
end

/-! ### The same with operations under a fence that lets all functions by: a call of yield may stand in the region -/
section
variable {F : Fence} {n : Nat} {P : Program} {ops : Array Oper} {Q : Exit → Act → World → Prop} {Rq : Nat → Prop} {S : World → Prop}

def wpAnyInS (F : Fence) (n : Nat) (P : Program) (ops : Array Oper) (Q : Exit → Act → World → Prop) (Rq : Nat → Prop) (S : World → Prop) : Nat → Array Bool → Act → World → Prop
  | 0, listed, a, w => Region.ready .any ops listed = [] ∧ Q .normal a w
  | fuel + 1, listed, a, w =>
    (Region.ready .any ops listed = [] → Q .normal a w) ∧
    ∀ i ∈ Region.ready .any ops listed, wpOpIn F n P ops Q i (fun a' w' => (Rq i → S w') ∧ wpAnyInS F n P ops Q Rq S fuel (listed.setIfInBounds i true) a' w') a w

/-- What has come up has all that it waits for behind it. -/
def Closed (ops : Array Oper) (listed : Array Bool) : Prop := ∀ j o, ops[j]? = some o → listed.getD j false = true → ∀ e ∈ o.after, Region.binds .any e = true → listed.getD e.on false = true

theorem Closed.start (ops : Array Oper) (sz : Nat) : Closed ops (Array.replicate sz false) := fun j _ _ h => by
  exfalso
  rcases Nat.lt_or_ge j sz with h' | h'
  · simp [h'] at h
  · simp [h'] at h

theorem Closed.next {listed : Array Bool} {i : Nat} (h : Closed ops listed) (hi : i ∈ Region.ready .any ops listed) : Closed ops (listed.setIfInBounds i true) := by
  intro j o ho hl e he hb
  have mono : ∀ k, listed.getD k false = true → (listed.setIfInBounds i true).getD k false = true := fun k hk => by
    by_cases e2 : i = k
    · subst e2
      rcases Nat.lt_or_ge i listed.size with h' | h'
      · simp [h']
      · simp [Array.getElem?_eq_none h'] at hk
    · rw [getD_set_ne false e2]; exact hk
  by_cases e2 : i = j
  · subst e2
    obtain ⟨_, o', ho', hall⟩ := mem_ready.1 hi
    rw [ho] at ho'
    cases ho'
    exact mono _ (hall e he hb)
  · rw [getD_set_ne false e2] at hl
    exact mono _ (h j o ho hl e he hb)

theorem anyIn_of_S : ∀ (fuel : Nat) (listed : Array Bool) (a : Act) (w : World), wpAnyInS F n P ops Q Rq S fuel listed a w → wpAnyIn F n P .any ops Q fuel listed a w
  | 0, _, _, _, h => h
  | fuel + 1, _, _, _, h => ⟨h.1, fun i hi => wpOpIn_mono (fun a' w' h' => anyIn_of_S fuel _ a' w' h'.2) (h.2 i hi)⟩

theorem yieldsS_op {i : Nat} {o : Oper} {v : Value} {a : Act} (hF : ∀ f, F.fn f) (hnd : ∀ c, o.op ≠ .defer c) (hi : ops[i]? = some o) (hy : YieldsIf P ops S o v a)
    {K : Act → World → Prop} {w : World} (hS : S w) (h : K (a.put o.dst v) w) : wpOpIn F n P ops Q i K a w := by
  unfold wpOpIn
  simp only [hi]
  rcases hy with ⟨hw, hv⟩ | ⟨hw, rfl⟩
  · simp only [hw, if_true, Oper.wpIn, Oper.semAt_plain F a.eval o hnd, hv w hS, Oper.uponIn]; exact ⟨fun f _ => hF f, h⟩
  · simp only [hw, Bool.false_eq_true, if_false]; exact ⟨fun f _ => hF f, h⟩

theorem putS_op {j : Nat} {oi oj : Oper} {v : Value} (hF : ∀ f, F.fn f) (hnd : ∀ c, oj.op ≠ .defer c) (hj : ops[j]? = some oj) (hap : oi.apart ops oj = true)
    (hsi : ∀ cs b, oi.op ≠ .select cs b) (hsj : ∀ cs b, oj.op ≠ .select cs b)
    (hQ : ∀ c a w, Q (.panic c) (a.put oi.dst v) w → Q (.panic c) a w) {K : Act → World → Prop} {a : Act} {w : World}
    (hy : YieldsIf P ops S oi v a) (h : wpOpIn F n P ops Q j K (a.put oi.dst v) w) :
    wpOpIn F n P ops Q j (fun a' w' => YieldsIf P ops S oi v a' ∧ K (a'.put oi.dst v) w') a w := by
  obtain ⟨h1, h2, h3⟩ := Oper.apart_spec hap
  have keep : ∀ (a : Act), YieldsIf P ops S oi v a → ∀ u, YieldsIf P ops S oi v (a.put oj.dst u) := fun a hy u =>
    hy.of_same (execOp_put oi hsi a oj.dst u h3) (wanted_put oi a oj.dst u h3)
  have keepD : ∀ d, YieldsIf P ops S oi v { a with defers := d :: a.defers } := fun d => hy.of_same rfl rfl
  unfold wpOpIn at *
  simp only [hj] at *
  rw [wanted_put oj a oi.dst v h1] at h
  split
  · rename_i hw
    simp only [hw, if_true] at h
    refine ⟨fun f _ => hF f, ?_⟩
    have h := h.2
    rw [Oper.semAt_plain F _ oj hnd] at h ⊢
    rw [execOp_put oj hsj a oi.dst v h1] at h
    generalize (execOp a.eval oj).run P w = r at *
    cases r with
    | ok x w' =>
      cases x <;> simp only [Oper.uponIn] at h ⊢
      case value u => exact ⟨keep a hy u, by rw [← Act.put_comm a v u h2]; exact h⟩
      case skip => exact ⟨keep a hy _, by rw [← Act.put_comm a v undef h2]; exact h⟩
      case defer d =>
        refine ⟨keep _ (keepD d) _, ?_⟩
        rw [← Act.put_comm _ v undef h2, ← Act.put_defers]
        exact h
      case enter f args =>
        refine ⟨h.1, CallsIn.mono h.2 fun e w'' he => ?_⟩
        cases e with
        | returned u => exact ⟨keep a hy u, by rw [← Act.put_comm a v u h2]; exact he⟩
        | panicked c => exact hQ _ _ _ he
        | outgrown => exact he
      case row row args => exact ⟨h.1, RowsIn.mono h.2 fun u w'' he => ⟨keep a hy u, by rw [← Act.put_comm a v u h2]; exact he⟩⟩
      case round l f tmps assign body =>
        refine ⟨h.1, RoundIn.mono h.2 fun e w'' he => ?_⟩
        cases e with
        | returned u => exact ⟨keep a hy u, by rw [← Act.put_comm a v u h2]; exact he⟩
        | panicked c => exact hQ _ _ _ he
        | outgrown => exact he
    | halt x w' =>
      cases x <;> simp only [Oper.uponIn] at h ⊢
      case panic u => exact hQ _ _ _ h
  · rename_i hw
    simp only [hw] at h
    exact ⟨fun f _ => hF f, keep a hy _, by rw [← Act.put_comm a v undef h2]; exact h.2⟩

theorem firstS {i : Nat} {oi : Oper} {v : Value} (hF : ∀ f, F.fn f) (hd : noDefer ops = true) (hbl : ∀ listed j, Closed ops listed → listed.getD i true = false → j ∈ Region.ready .any ops listed → j ≠ i → Rq j) (hi : ops[i]? = some oi) (hsel : ∀ (j : Nat) (o : Oper) cs b, ops[j]? = some o → o.op ≠ .select cs b)
    (hQ : ∀ c a w, Q (.panic c) (a.put oi.dst v) w → Q (.panic c) a w) :
    ∀ (fuel : Nat) (listed : Array Bool) (a : Act) (w : World),
      (∀ j oj, ops[j]? = some oj → j ≠ i → listed.getD j true = false → (∀ e ∈ oj.after, Region.binds .any e = true → e.on ≠ i) → oi.apart ops oj = true) →
      Closed ops listed → i ∈ Region.ready .any ops listed → YieldsIf P ops S oi v a → S w →
      wpAnyInS F n P ops Q Rq S fuel (listed.setIfInBounds i true) (a.put oi.dst v) w → wpAnyInS F n P ops Q Rq S (fuel + 1) listed a w := by
  intro fuel
  induction fuel with
  | zero =>
    intro listed a w _ _ hr hy hS H
    refine ⟨fun h => (by rw [h] at hr; cases hr), fun j hj => ?_⟩
    by_cases hji : j = i
    · subst hji; exact yieldsS_op hF (noDefer_spec hd hi) hi hy hS ⟨fun _ => hS, H⟩
    · have := ready_mono hj hji
      rw [H.1] at this
      cases this
  | succ fuel ih =>
    intro listed a w hfree hcl hr hy hS H
    refine ⟨fun h => (by rw [h] at hr; cases hr), fun j hj => ?_⟩
    by_cases hji : j = i
    · subst hji; exact yieldsS_op hF (noDefer_spec hd hi) hi hy hS ⟨fun _ => hS, H⟩
    · have h1 := H.2 j (ready_mono hj hji)
      obtain ⟨hjun, oj, hoj, hall⟩ := mem_ready.1 hj
      have hnot : ∀ e ∈ oj.after, Region.binds .any e = true → e.on ≠ i := fun e he hb heq => by
        have h1 := hall e he hb
        have h0 := (mem_ready.1 hr).1
        rw [heq] at h1
        rcases Nat.lt_or_ge i listed.size with h' | h'
        · simp [h'] at h0 h1; rw [h0] at h1; cases h1
        · simp [Array.getElem?_eq_none h'] at h1
      have h2 := putS_op hF (noDefer_spec hd hoj) hoj (hfree j oj hoj hji hjun hnot) (fun cs b => hsel i oi cs b hi) (fun cs b => hsel j oj cs b hoj) hQ hy h1
      have hfree' : ∀ k ok, ops[k]? = some ok → k ≠ i → (listed.setIfInBounds j true).getD k true = false →
          (∀ e ∈ ok.after, Region.binds .any e = true → e.on ≠ i) → oi.apart ops ok = true := fun k ok hk hki hun hno => by
        refine hfree k ok hk hki ?_ hno
        by_cases hjk : j = k
        · subst hjk; exact hjun
        · rw [getD_set_ne true hjk] at hun; exact hun
      have hRq : Rq j := hbl listed j hcl (mem_ready.1 hr).1 hj hji
      refine wpOpIn_mono (fun a' w' h3 => ⟨h3.2.1, ih (listed.setIfInBounds j true) a' w' hfree' (hcl.next hj) (ready_mono hr (Ne.symm hji)) h3.1 (h3.2.1 hRq) ?_⟩) h2
      rw [Array.setIfInBounds_comm _ _ hji]
      exact h3.2.2

/-- The tail: V says what must be shown behind each of its operations. -/
def wpTailIn (F : Fence) (n : Nat) (P : Program) (ops : Array Oper) (Q : Exit → Act → World → Prop) (V : World → Prop) : List Oper → Act → World → Prop
  | [], a, w => Q .normal a w
  | o :: rest, a, w =>
    if Region.wanted o (yielded ops a.tmps) then o.wpIn F n P a w (fun a' w' => V w' ∧ wpTailIn F n P ops Q V rest a' w') Q
    else V w ∧ wpTailIn F n P ops Q V rest (a.put o.dst undef) w

variable {V : World → Prop}
theorem wpTailIn_nil {a : Act} {w : World} (h : Q .normal a w) : wpTailIn F n P ops Q V [] a w := h
theorem wpTailIn_step {o : Oper} {rest : List Oper} {a : Act} {w : World} (hg : o.guard = none)
    (h : ∀ K : Act → World → Prop, (∀ a w, V w → wpTailIn F n P ops Q V rest a w → K a w) → o.wpIn F n P a w K Q) : wpTailIn F n P ops Q V (o :: rest) a w := by
  unfold wpTailIn
  rw [if_pos (by simp [Region.wanted, hg])]
  exact h _ fun _ _ h1 h2 => ⟨h1, h2⟩

theorem tail_anyIn (hF : ∀ f, F.fn f) (m : Nat) (hV : ∀ j w, m ≤ j → V w → Rq j → S w)
    (hr : ∀ j, j < ops.size - m → Region.ready .any ops (listAt ops.size (m + j)) = [m + j]) (he : Region.ready .any ops (listAt ops.size ops.size) = []) :
    ∀ (rest : List Oper) (i : Nat) (a : Act) (w : World), m ≤ i → i + rest.length = ops.size → (∀ j, rest[j]? = ops[i + j]?) → wpTailIn F n P ops Q V rest a w →
      wpAnyInS F n P ops Q Rq S (ops.size - i) (listAt ops.size i) a w := by
  intro rest
  induction rest with
  | nil =>
    intro i a w _ hi _ h
    have : i = ops.size := by simpa using hi
    subst this
    rw [Nat.sub_self]
    exact ⟨he, h⟩
  | cons o rest ih =>
    intro i a w hni hi hget h
    simp only [List.length_cons] at hi
    have e : ops.size - i = (ops.size - (i + 1)) + 1 := by omega
    rw [e]
    have hri : Region.ready .any ops (listAt ops.size i) = [i] := by
      have := hr (i - m) (by omega)
      rwa [show m + (i - m) = i by omega] at this
    refine ⟨fun h0 => (by rw [hri] at h0; cases h0), fun j hj => ?_⟩
    rw [hri] at hj
    have hj' : j = i := by simpa using hj
    subst hj'
    have ho : ops[j]? = some o := by simpa using (hget 0).symm
    have next : ∀ a' w', V w' ∧ wpTailIn F n P ops Q V rest a' w' → (Rq j → S w') ∧ wpAnyInS F n P ops Q Rq S (ops.size - (j + 1)) ((listAt ops.size j).setIfInBounds j true) a' w' := fun a' w' hh =>
      ⟨hV j w' hni hh.1, ih (j + 1) a' w' (by omega) (by omega) (fun m => by have := hget (m + 1); simpa [Nat.add_assoc, Nat.add_comm 1 m] using this) hh.2⟩
    refine wpOpIn_mono next ?_
    unfold wpOpIn
    simp only [ho]
    unfold wpTailIn at h
    split
    · rename_i hw; rw [if_pos hw] at h; exact h
    · rename_i hw; rw [if_neg hw] at h; exact ⟨fun f _ => hF f, h⟩

theorem Closed.listAt {m : Nat} (hf : ∀ i, i < m → Region.free .any ops (listAt ops.size i) i = true ∧ (Region.ready .any ops (listAt ops.size i)).contains i = true) : ∀ i, i ≤ m → Closed ops (Go.Proofs.YtamclieppbnpiabGreatDoor.listAt ops.size i)
  | 0, _ => Closed.start ops _
  | i + 1, hi => (Closed.listAt hf i (by omega)).next (by simpa using (hf i (by omega)).2)

theorem head_anyIn (hF : ∀ f, F.fn f) (hd : noDefer ops = true) (m : Nat) (hbl : ∀ i, i < m → ∀ listed j, Closed ops listed → listed.getD i true = false → j ∈ Region.ready .any ops listed → j ≠ i → Rq j) (hs : Region.noSelect ops = true) (hQ : ∀ c a (d : Nat) v w, Q (.panic c) (Act.put a (some d) v) w → Q (.panic c) a w)
    (hf : ∀ i, i < m → Region.free .any ops (listAt ops.size i) i = true ∧ (Region.ready .any ops (listAt ops.size i)).contains i = true) (hn : m ≤ ops.size) {w : World} (hS : S w) {k : Act → Prop}
    (hk : ∀ a, k a → wpAnyInS F n P ops Q Rq S (ops.size - m) (listAt ops.size m) a w) :
    ∀ (rest : List Oper) (i : Nat) (a : Act), i + rest.length = m → (∀ j, j < rest.length → rest[j]? = ops[i + j]?) → wpHead P ops S rest k a → wpAnyInS F n P ops Q Rq S (ops.size - i) (listAt ops.size i) a w := by
  intro rest
  induction rest with
  | nil =>
    intro i a hi _ h
    have : i = m := by simpa using hi
    subst this
    exact hk a h
  | cons o rest ih =>
    intro i a hi hget h
    simp only [List.length_cons] at hi
    obtain ⟨v, hy, h'⟩ := h
    have e : ops.size - i = (ops.size - (i + 1)) + 1 := by omega
    rw [e]
    have ho : ops[i]? = some o := by simpa using (hget 0 (by simp)).symm
    obtain ⟨hf1, hf2⟩ := hf i (by omega)
    exact firstS hF hd (hbl i (by omega)) ho (Region.noSelect_spec hs) (fun c a w => by cases hd : o.dst with | none => exact id | some d => exact hQ c a d v w) _ _ _ _ (Region.free_spec ho hf1) (Closed.listAt hf i (by omega)) (by simpa using hf2) hy hS
      (ih (i + 1) _ (by omega) (fun m hm => by have := hget (m + 1) (by simp; omega); simpa [Nat.add_assoc, Nat.add_comm 1 m] using this) h')

theorem wpInF_region_head {id : Nat} {a : Act} {w : World} {l : List Oper} (m : Nat) (hF : ∀ f, F.fn f) (hm : P.follows .mixedOrders = true) (hB : headB l.toArray m = true) (hd : noDefer l.toArray = true)
    (hQ : ∀ c a (d : Nat) v w, Q (.panic c) (Act.put a (some d) v) w → Q (.panic c) a w) (hS : S w.drew)
    (h : wpHead P l.toArray S (l.take m) (fun a' => wpTailIn F n P l.toArray Q S (l.drop m) a' w.drew) a) : (Code.region id l.toArray true).wpIn F n P Q a w := by
  simp only [headB, Bool.and_eq_true, decide_eq_true_eq, List.all_eq_true, List.mem_range, beq_iff_eq] at hB
  obtain ⟨⟨⟨⟨hs, hn⟩, hf⟩, hr⟩, he⟩ := hB
  refine wpIn_region_any hm (anyIn_of_S (S := S) (Rq := fun _ => True) _ _ _ _ ?_)
  have hnl : m ≤ l.length := by simpa using hn
  have hlen : (l.take m).length = m := by simp; omega
  refine head_anyIn hF hd m (fun _ _ _ _ _ _ _ _ => trivial) hs hQ hf hn hS (k := fun a' => wpTailIn F n P l.toArray Q S (l.drop m) a' w.drew) (fun a' ha' => ?_) (l.take m) 0 a (by omega) (fun j hj => ?_) h
  · refine tail_anyIn hF m (fun _ _ _ h _ => h) hr he (l.drop m) m a' _ (Nat.le_refl _) (by simp; omega) (fun j => by simp) ha'
  · rw [hlen] at hj
    simp [hj]

/-- Each of the first m operations is waited for by one behind it, up to number m; each behind m waits for one from m on. -/
def blockedB (ops : Array Oper) (m : Nat) : Bool :=
  (List.range m).all (fun i => (List.range (m + 1)).any fun k => decide (i < k) && match ops[k]? with | some o => o.after.any (fun e => Region.binds .any e && e.on == i) | none => false) &&
  (List.range (ops.size - m - 1)).all (fun d => match ops[m + 1 + d]? with | some o => o.after.any (fun e => Region.binds .any e && decide (m ≤ e.on) && decide (e.on < m + 1 + d)) | none => false)

theorem blocked_spec {m : Nat} (h : blockedB ops m = true) {listed : Array Bool} (hc : Closed ops listed) {j : Nat} (hj : j ∈ Region.ready .any ops listed) (hm : m ≤ j) : ∀ i, i < m → listed.getD i false = true := by
  simp only [blockedB, Bool.and_eq_true, List.all_eq_true, List.mem_range, List.any_eq_true, decide_eq_true_eq] at h
  obtain ⟨h1, h2⟩ := h
  obtain ⟨_, oj, hoj, hall⟩ := mem_ready.1 hj
  -- whatever number m waits for has come up
  have key : ∀ d k, k = m + d → k ≤ j → (k = j ∨ listed.getD k false = true) → ∀ o, ops[m]? = some o → ∀ e ∈ o.after, Region.binds .any e = true → listed.getD e.on false = true := by
    intro d
    induction d using Nat.strongRecOn with
    | _ d ih =>
      intro k hk hkj hl o ho e he hb
      cases d with
      | zero =>
        have hkm : k = m := by omega
        subst hkm
        rcases hl with rfl | hl
        · rw [ho] at hoj; cases hoj; exact hall e he hb
        · exact hc _ o ho hl e he hb
      | succ d =>
        have hks : ∃ ok, ops[k]? = some ok := by
          rcases hl with rfl | hl
          · exact ⟨oj, hoj⟩
          · rcases Nat.lt_or_ge k ops.size with h' | h'
            · exact ⟨_, Array.getElem?_eq_getElem h'⟩
            · have hjs : j < ops.size := (Array.getElem?_eq_some_iff.1 hoj).1
              omega
        obtain ⟨ok, hok⟩ := hks
        have hksz : k < ops.size := (Array.getElem?_eq_some_iff.1 hok).1
        have h3 := h2 d (by omega)
        rw [show m + 1 + d = k by omega, hok] at h3
        simp only [Array.any_eq_true, Bool.and_eq_true, decide_eq_true_eq] at h3
        obtain ⟨q, hq, ⟨hqb, hq1⟩, hq2⟩ := h3
        have hlq : listed.getD (ok.after[q]).on false = true := by
          rcases hl with rfl | hl
          · rw [hok] at hoj; cases hoj; exact hall _ (Array.getElem_mem hq) hqb
          · exact hc _ ok hok hl _ (Array.getElem_mem hq) hqb
        exact ih ((ok.after[q]).on - m) (by omega) _ (by omega) (by omega) (.inr hlq) o ho e he hb
  have top := key (j - m) j (by omega) (Nat.le_refl _) (.inl rfl)
  intro i hi
  have all : ∀ d i, i < m → m - i = d → listed.getD i false = true := by
    intro d
    induction d using Nat.strongRecOn with
    | _ d ih =>
      intro i hi hd
      obtain ⟨k, hk, hik, hek⟩ := h1 i hi
      cases hok : ops[k]? with
      | none => rw [hok] at hek; cases hek
      | some ok =>
        rw [hok] at hek
        simp only [Array.any_eq_true, Bool.and_eq_true, beq_iff_eq] at hek
        obtain ⟨q, hq, hqb, hqi⟩ := hek
        by_cases hkm : k = m
        · subst hkm
          rw [← hqi]
          exact top ok hok _ (Array.getElem_mem hq) hqb
        · have hlk := ih (m - k) (by omega) k (by omega) rfl
          rw [← hqi]
          exact hc k ok hok hlk _ (Array.getElem_mem hq) hqb
  exact all _ i hi rfl

/-- As above, where the rest waits for all of the first m: nothing is to be shown behind it. -/
theorem wpInF_region_tail {id : Nat} {a : Act} {w : World} {l : List Oper} (m : Nat) (hF : ∀ f, F.fn f) (hm : P.follows .mixedOrders = true) (hB : headB l.toArray m = true) (hd : noDefer l.toArray = true) (hbk : blockedB l.toArray m = true)
    (hQ : ∀ c a (d : Nat) v w, Q (.panic c) (Act.put a (some d) v) w → Q (.panic c) a w)
    (h : wpHead P l.toArray (fun w' => w' = w.drew) (l.take m) (fun a' => wpTailIn F n P l.toArray Q (fun _ => True) (l.drop m) a' w.drew) a) : (Code.region id l.toArray true).wpIn F n P Q a w := by
  simp only [headB, Bool.and_eq_true, decide_eq_true_eq, List.all_eq_true, List.mem_range, beq_iff_eq] at hB
  obtain ⟨⟨⟨⟨hs, hn⟩, hf⟩, hr⟩, he⟩ := hB
  refine wpIn_region_any hm (anyIn_of_S (S := fun w' => w' = w.drew) (Rq := fun j => j < m) _ _ _ _ ?_)
  have hnl : m ≤ l.length := by simpa using hn
  have hlen : (l.take m).length = m := by simp; omega
  refine head_anyIn hF hd m (fun i hi listed j hc hl hj _ => ?_) hs hQ hf hn (S := fun w' => w' = w.drew) rfl (k := fun a' => wpTailIn F n P l.toArray Q (fun _ => True) (l.drop m) a' w.drew) (fun a' ha' => ?_) (l.take m) 0 a (by omega) (fun j hj => ?_) h
  · rcases Nat.lt_or_ge j m with h' | h'
    · exact h'
    · have h3 := blocked_spec hbk hc hj h' i hi
      rcases Nat.lt_or_ge i listed.size with h'' | h''
      · simp [h''] at hl h3; rw [hl] at h3; cases h3
      · simp [Array.getElem?_eq_none h''] at hl
  · exact tail_anyIn hF m (fun j _ hj _ hjm => absurd hjm (by omega)) hr he (l.drop m) m a' _ (Nat.le_refl _) (by simp; omega) (fun j => by simp) ha'
  · rw [hlen] at hj
    simp [hj]

/-- Q, but no way out by a panic. -/
def Calm (Q : Exit → Act → World → Prop) : Exit → Act → World → Prop
  | .panic _, _, _ => False
  | e, a, w => Q e a w

/-- A function that ranges over a function and does not panic, walked in plain words. -/
theorem calls_of_wp_marks {f : FuncId} {fn : Func} {c : Code} {args : Array Value} {w : World} {R : Ending → World → Prop} (n : Nat)
    (hf : P.funcs[f]? = some fn) (hb : fn.body = some c)
    (h : c.wp P (Calm (bodyPostM Fence.wide n P fn R)) { tmps := args ++ Array.replicate (fn.ntmps - args.size) undef, defers := [] } w) : Calls P f args w R :=
  (callsIn_wide (n := n)).1 (callsIn_of_wp_marks hf hb trivial (wpIn_wide.2 (wp_mono h fun e a w q => by cases e <;> first | exact q | exact q.elim)) rfl)
end
end Go.Proofs.YtamclieppbnpiabGreatDoor
