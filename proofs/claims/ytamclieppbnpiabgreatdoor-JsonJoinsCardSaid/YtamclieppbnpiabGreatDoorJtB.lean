/-
  A law for a drawn region with two calls one behind the other, beside the making of a variable that waits for nothing. No program here.
-/
import Derived.Test.YtamclieppbnpiabGreatDoorRegA
set_option linter.unusedSimpArgs false
set_option linter.unusedVariables false
namespace Go.Proofs.YtamclieppbnpiabGreatDoor
open Go

section
variable {P : Program} {ops : Array Oper} {Q : Exit → Act → World → Prop} {S : World → Prop}

def endsB (ops : Array Oper) (us vs : List Nat) (ls : Array Bool) : Bool := headOK ops us ls && tailOK ops vs (behind_ us ls)
def alloc2B (ops : Array Oper) (hs : List Nat) (c d z : Nat) (us vs : List Nat) : Bool :=
  Region.noSelect ops && decide (vs.length + 1 + us.length + 1 + 1 + hs.length = ops.size) && headOK ops hs (Array.replicate ops.size false) &&
    (Region.ready .any ops (behind_ hs (Array.replicate ops.size false)) == [c, z]) &&
    (Region.ready .any ops ((behind_ hs (Array.replicate ops.size false)).setIfInBounds c true) == [d, z]) &&
    endsB ops us (z :: vs) (((behind_ hs (Array.replicate ops.size false)).setIfInBounds c true).setIfInBounds d true) &&
    (Region.ready .any ops (((behind_ hs (Array.replicate ops.size false)).setIfInBounds c true).setIfInBounds z true) == [d]) &&
    endsB ops us vs ((((behind_ hs (Array.replicate ops.size false)).setIfInBounds c true).setIfInBounds z true).setIfInBounds d true) &&
    (Region.ready .any ops ((behind_ hs (Array.replicate ops.size false)).setIfInBounds z true) == [c]) &&
    (Region.ready .any ops (((behind_ hs (Array.replicate ops.size false)).setIfInBounds z true).setIfInBounds c true) == [d]) &&
    endsB ops us vs ((((behind_ hs (Array.replicate ops.size false)).setIfInBounds z true).setIfInBounds c true).setIfInBounds d true)

theorem wp_region_alloc2 {id : Nat} {a : Act} {w : World} {l : List Oper} (hs : List Nat) (c d z : Nat) (us vs : List Nat) (hm : P.follows .mixedOrders = true) (hB : alloc2B l.toArray hs c d z us vs = true)
    (hQ : ∀ c a (d : Nat) v w, Q (.panic c) (Act.put a (some d) v) w → Q (.panic c) a w) (hS : S w.drew)
    (h : wpHead P l.toArray S (pick l.toArray hs) (fun a' =>
      wpTailK P l.toArray Q S (fun a1 w1 =>
        wpTailK P l.toArray Q S (fun a2 w2 => wpHead P l.toArray S (pick l.toArray us) (fun a3 => wpTail P l.toArray Q S (pick l.toArray (z :: vs)) a3 w2) a2) (pick l.toArray [d]) a1 w1 ∧
        wpTailK P l.toArray Q S (fun a2 w2 => wpHead P l.toArray S (pick l.toArray us) (fun a3 => wpTail P l.toArray Q S (pick l.toArray vs) a3 w2) a2) (pick l.toArray [z, d]) a1 w1) (pick l.toArray [c]) a' w.drew ∧
      wpTailK P l.toArray Q S (fun a2 w2 => wpHead P l.toArray S (pick l.toArray us) (fun a3 => wpTail P l.toArray Q S (pick l.toArray vs) a3 w2) a2) (pick l.toArray [z, c, d]) a' w.drew) a) : (Code.region id l.toArray true).wp P Q a w := by
  simp only [alloc2B, endsB, Bool.and_eq_true, decide_eq_true_eq, beq_iff_eq] at hB
  obtain ⟨⟨⟨⟨⟨⟨⟨⟨⟨⟨hn, hl⟩, h1⟩, hr⟩, hrc⟩, hu1, hv1⟩, hrcz⟩, hu2, hv2⟩, hrz⟩, hrzc⟩, hu3, hv3⟩ := hB
  refine wp_region_any hm (wpAny_of_held (S := S) _ _ _ _ ?_)
  rw [← hl] at h1 hr hrc hu1 hv1 hrcz hu2 hv2 hrz hrzc hu3 hv3 ⊢
  refine headO_any hn hQ hS hs _ a h1 (fun a' ha' => ?_) h
  generalize behind_ hs (Array.replicate (vs.length + 1 + us.length + 1 + 1 + hs.length) false) = l0 at hr hrc hu1 hv1 hrcz hu2 hv2 hrz hrzc hu3 hv3 ⊢
  refine wpAnyH_all hr (by simp) fun j hj => ?_
  have hj' : j = c ∨ j = z := by simpa using hj
  rcases hj' with rfl | rfl
  · refine tailK_first (by rw [hr]; simp) ha'.1 (fun a1 w1 hS1 hk1 => ?_)
    refine wpAnyH_all hrc (by simp) fun j2 hj2 => ?_
    have hj2' : j2 = d ∨ j2 = z := by simpa using hj2
    rcases hj2' with rfl | rfl
    · refine tailK_first (by rw [hrc]; simp) hk1.1 (fun a2 w2 hS2 hk2 => ?_)
      have e : vs.length + 1 + us.length = (z :: vs).length + us.length := by simp
      rw [e]
      exact headO_any hn hQ hS2 us _ a2 hu1 (fun a3 ha3 => tailO_any (z :: vs) _ a3 _ hv1 ha3) hk2
    · refine tailK_first (by rw [hrc]; simp) hk1.2 (fun a2 w2 hS2 hk2 => ?_)
      have e : vs.length + 1 + us.length = (vs.length + us.length) + 1 := by omega
      rw [e]
      refine wpAnyH_all hrcz (by simp) fun j3 hj3 => ?_
      have hj3' : j3 = d := by simpa using hj3
      subst hj3'
      refine tailK_first (by rw [hrcz]; simp) hk2 (fun a3 w3 hS3 hk3 => ?_)
      exact headO_any hn hQ hS3 us _ a3 hu2 (fun a4 ha4 => tailO_any vs _ a4 _ hv2 ha4) hk3
  · refine tailK_first (by rw [hr]; simp) ha'.2 (fun a1 w1 hS1 hk1 => ?_)
    refine wpAnyH_all hrz (by simp) fun j2 hj2 => ?_
    have hj2' : j2 = c := by simpa using hj2
    subst hj2'
    refine tailK_first (by rw [hrz]; simp) hk1 (fun a2 w2 hS2 hk2 => ?_)
    have e : vs.length + 1 + us.length = (vs.length + us.length) + 1 := by omega
    rw [e]
    refine wpAnyH_all hrzc (by simp) fun j3 hj3 => ?_
    have hj3' : j3 = d := by simpa using hj3
    subst hj3'
    refine tailK_first (by rw [hrzc]; simp) hk2 (fun a3 w3 hS3 hk3 => ?_)
    exact headO_any hn hQ hS3 us _ a3 hu3 (fun a4 ha4 => tailO_any vs _ a4 _ hv3 ha4) hk3
end
end Go.Proofs.YtamclieppbnpiabGreatDoor
