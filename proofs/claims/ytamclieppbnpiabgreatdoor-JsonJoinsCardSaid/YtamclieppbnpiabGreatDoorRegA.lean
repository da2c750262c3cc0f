/-
  A law for a drawn region in which one operation (the making of a variable) waits for nothing, beside a call: it comes ahead of the call, or behind: two walks. No program here.
-/
import Derived.Test.YtamclieppbnpiabGreatDoorReg
set_option linter.unusedSimpArgs false
set_option linter.unusedVariables false
namespace Go.Proofs.YtamclieppbnpiabGreatDoor
open Go

section
variable {P : Program} {ops : Array Oper} {Q : Exit → Act → World → Prop} {S : World → Prop}

/-- The closed fact: hs free ones; then c (the call) and z (the making) are ready; us free ones behind the call, vs in order. -/
def allocB (ops : Array Oper) (hs : List Nat) (c z : Nat) (us vs : List Nat) : Bool :=
  Region.noSelect ops && decide (vs.length + 1 + us.length + 1 + hs.length = ops.size) && headOK ops hs (Array.replicate ops.size false) &&
    (Region.ready .any ops (behind_ hs (Array.replicate ops.size false)) == [c, z]) &&
    headOK ops us ((behind_ hs (Array.replicate ops.size false)).setIfInBounds c true) && tailOK ops (z :: vs) (behind_ us ((behind_ hs (Array.replicate ops.size false)).setIfInBounds c true)) &&
    (Region.ready .any ops ((behind_ hs (Array.replicate ops.size false)).setIfInBounds z true) == [c]) &&
    headOK ops us (((behind_ hs (Array.replicate ops.size false)).setIfInBounds z true).setIfInBounds c true) && tailOK ops vs (behind_ us (((behind_ hs (Array.replicate ops.size false)).setIfInBounds z true).setIfInBounds c true))

theorem tailK_first {k G : Act → World → Prop} {i : Nat} {is : List Nat} {ls : Array Bool} {a : Act} {w : World} (hr : i ∈ Region.ready .any ops ls)
    (h : wpTailK P ops Q S k (pick ops (i :: is)) a w) (hk : ∀ a w, S w → wpTailK P ops Q S k (pick ops is) a w → G a w) : wpOp P ops Q i (fun a' w' => S w' ∧ G a' w') a w := by
  obtain ⟨_, o, ho, _⟩ := mem_ready.1 hr
  have ep : pick ops (i :: is) = o :: pick ops is := by simp [pick, ho]
  rw [ep] at h
  refine wpOp_mono (K := fun a' w' => S w' ∧ wpTailK P ops Q S k (pick ops is) a' w') (fun a' w' hh => ⟨hh.1, hk _ _ hh.1 hh.2⟩) ?_
  unfold wpOp
  simp only [ho]
  exact h

theorem any_of_alloc {a : Act} {w : World} {l : List Oper} (hs : List Nat) (c z : Nat) (us vs : List Nat) (hB : allocB l.toArray hs c z us vs = true)
    (hQ : ∀ c a (d : Nat) v w, Q (.panic c) (Act.put a (some d) v) w → Q (.panic c) a w) (hS : S w.drew)
    (h : wpHead P l.toArray S (pick l.toArray hs) (fun a' =>
      wpTailK P l.toArray Q S (fun a2 w2 => wpHead P l.toArray S (pick l.toArray us) (fun a3 => wpTail P l.toArray Q S (pick l.toArray (z :: vs)) a3 w2) a2) (pick l.toArray [c]) a' w.drew ∧
      wpTailK P l.toArray Q S (fun a2 w2 => wpHead P l.toArray S (pick l.toArray us) (fun a3 => wpTail P l.toArray Q S (pick l.toArray vs) a3 w2) a2) (pick l.toArray [z, c]) a' w.drew) a) :
    wpAny P .any l.toArray Q l.toArray.size (Array.replicate l.toArray.size false) a { w with drawn := w.drawn + 1 } := by
  simp only [allocB, Bool.and_eq_true, decide_eq_true_eq, beq_iff_eq] at hB
  obtain ⟨⟨⟨⟨⟨⟨⟨⟨hn, hl⟩, h1⟩, hr⟩, hu⟩, hv⟩, hr2⟩, hu2⟩, hv2⟩ := hB
  refine wpAny_of_held (S := S) _ _ _ _ ?_
  rw [← hl] at h1 hr hu hv hr2 hu2 hv2 ⊢
  refine headO_any hn hQ hS hs _ a h1 (fun a' ha' => ?_) h
  generalize behind_ hs (Array.replicate (vs.length + 1 + us.length + 1 + hs.length) false) = l0 at hr hu hv hr2 hu2 hv2 ⊢
  refine wpAnyH_all hr (by simp) fun j hj => ?_
  have hj' : j = c ∨ j = z := by simpa using hj
  rcases hj' with rfl | rfl
  · refine tailK_first (by rw [hr]; simp) ha'.1 (fun a2 w2 hS2 hk2 => ?_)
    have e : vs.length + 1 + us.length = (z :: vs).length + us.length := by simp
    rw [e]
    exact headO_any hn hQ hS2 us _ a2 hu (fun a3 ha3 => tailO_any (z :: vs) _ a3 _ hv ha3) hk2
  · refine tailK_first (by rw [hr]; simp) ha'.2 (fun a2 w2 hS2 hk2 => ?_)
    have e : vs.length + 1 + us.length = (vs.length + us.length) + 1 := by omega
    rw [e]
    refine wpAnyH_all hr2 (by simp) fun j2 hj2 => ?_
    have hj2' : j2 = c := by simpa using hj2
    subst hj2'
    refine tailK_first (by rw [hr2]; simp) hk2 (fun a3 w3 hS3 hk3 => ?_)
    exact headO_any hn hQ hS3 us _ a3 hu2 (fun a4 ha4 => tailO_any vs _ a4 _ hv2 ha4) hk3

theorem wp_region_alloc {id : Nat} {a : Act} {w : World} {l : List Oper} (hs : List Nat) (c z : Nat) (us vs : List Nat) (hm : P.follows .mixedOrders = true) (hB : allocB l.toArray hs c z us vs = true)
    (hQ : ∀ c a (d : Nat) v w, Q (.panic c) (Act.put a (some d) v) w → Q (.panic c) a w) (hS : S w.drew)
    (h : wpHead P l.toArray S (pick l.toArray hs) (fun a' =>
      wpTailK P l.toArray Q S (fun a2 w2 => wpHead P l.toArray S (pick l.toArray us) (fun a3 => wpTail P l.toArray Q S (pick l.toArray (z :: vs)) a3 w2) a2) (pick l.toArray [c]) a' w.drew ∧
      wpTailK P l.toArray Q S (fun a2 w2 => wpHead P l.toArray S (pick l.toArray us) (fun a3 => wpTail P l.toArray Q S (pick l.toArray vs) a3 w2) a2) (pick l.toArray [z, c]) a' w.drew) a) : (Code.region id l.toArray true).wp P Q a w :=
  wp_region_any hm (any_of_alloc hs c z us vs hB hQ hS h)
end
end Go.Proofs.YtamclieppbnpiabGreatDoor
