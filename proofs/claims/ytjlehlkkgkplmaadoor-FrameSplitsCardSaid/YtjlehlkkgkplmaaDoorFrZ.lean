/-
  A head, a stream split, a reader fed: by the document's program text.
-/
import Derived.Test.YtjlehlkkgkplmaaDoorProg
import Derived.Test.YtjlehlkkgkplmaaDoorReg
import Derived.WalkKit
import Derived.WalkSpells
import Derived.WalkLawsBesides
import Derived.Lib.Hide
import Derived.Lib.MinMax
import Derived.Deep.QuietTactic
import Derived.BigQuiet
import Derived.OwnWalk
import Derived.Deep.AppendLies
import Derived.KernelRfl
import Derived.Test.YtjlehlkkgkplmaaDoorFrW
import Derived.Test.YtjlehlkkgkplmaaDoorFrL
import Derived.Test.YtjlehlkkgkplmaaDoorFrY
set_option linter.unusedSimpArgs false
set_option linter.unusedVariables false
namespace Go.Proofs.YtjlehlkkgkplmaaDoor
open Go Go.RowKit

def sizeV (o : Option Nat) : Int := match o with
  | none => -1
  | some n => n
def lenOfV : Value → Nat
  | .string s => s.size
  | _ => 0
theorem text_empty_is {s : ByteArray} (h : s.size = 0) : s.toList.isEmpty = true := by
  rw [ByteArray.toList_eq]
  have : s.data.toList = [] := List.eq_nil_of_length_eq_zero h
  rw [this]; rfl
theorem text_empty_not {s : ByteArray} (h : 0 < s.size) : s.toList.isEmpty = false := by
  rw [ByteArray.toList_eq]
  cases hd : s.data.toList with
  | nil =>
    have e : s.data.toList.length = s.size := rfl
    rw [hd, List.length_nil] at e
    omega
  | cons c l => rfl
theorem lineOf_len {l N V : List UInt8} (h : lineOf l = some (N, V)) : V.length ≤ l.length := by
  unfold lineOf at h
  simp only at h
  split at h
  · cases h
  · cases h
    rw [List.length_drop]
    omega
theorem lineV_none {s : ByteArray} (h : lineOf s.data.toList = none) : lineV s = (⟨#[]⟩, ⟨#[]⟩, false) := by unfold lineV; rw [h]
theorem lineV_some {s : ByteArray} {n v : List UInt8} (h : lineOf s.data.toList = some (n, v)) : lineV s = (⟨n.toArray⟩, ⟨v.toArray⟩, true) := by unfold lineV; rw [h]

set_option maxRecDepth 100000 in
set_option maxHeartbeats 16000000 in
theorem Rhead_any (s : ByteArray) (ls : List (List UInt8)) (w : World) (hs : s.size ≤ 1000000) (hE : Ends s.data.toList ls) :
    Calls Tryd.prog 27 #[.string s] w fun e w' => e = .returned (.int .i64 (sizeV (sizeGo none ls))) ∧ Below w.heap.size w w' := by
  have HE0 := Lib.hid hE
  clear hE
  go_enter Tryd.func27, Tryd.ntmps27
  go_wp2_with fail
  go_loopw [0, 3] (fun sv ov wr => ∃ (r : ByteArray) (o : Option Nat) (ms : List (List UInt8)) (z : Int), sv = .string r ∧ ov = .int .i64 z ∧ Hid (z = sizeV o) ∧ Hid (Ends r.data.toList ms) ∧ Hid (sizeGo none ls = sizeGo o ms) ∧ r.size ≤ 1000000 ∧ Hid (Below w.heap.size w wr)) (fun sv _ _ => lenOfV sv)
  case atStart => exact ⟨s, none, ls, _, rfl, rfl, Lib.hid rfl, HE0, Lib.hid rfl, hs, Lib.hid (Below.refl _ _)⟩
  case round =>
    obtain ⟨r, o, ms, z, rfl, rfl, HZ, HE, HG, hr, HB⟩ := hrel
    have hz : r.data.toList.length = r.size := rfl
    by_cases h0 : r.size = 0
    · have q := text_empty_is h0
      have HR : Hid (sizeGo none ls = o) := Lib.hid (by
        rw [HG.out]
        rcases HE.out with ⟨_, rfl⟩ | ⟨h, h1, _⟩
        · rfl
        · have := congrArg List.length h1
          rw [hz, h0, List.length_append] at this
          simp at this)
      clear h0
      go_wp2_with fail
      go_ret
      rw [HR.out, HZ.out]
      exact ⟨rfl, HB.out⟩
    · have q := text_empty_not (s := r) (by omega)
      obtain ⟨n, l, ns, h1, h2, h3, h4, h5, h6⟩ := HE.out.next (by intro e; rw [e] at hz; simp at hz; omega)
      rw [hz] at h1
      have hat : ∀ j, j + 2 ≤ r.size → (r.extract j (j + 2)).data.toList = (r.data.toList.drop j).take 2 := fun j hj => by rw [extract_data _ _ _ hj, Nat.add_sub_cancel_left]
      have hx : (r.extract 0 n).data.toList = l := by rw [extract_data _ _ _ (by omega), h4]; simp
      have hrest : (r.extract (n + 2) r.size).data.toList = r.data.toList.drop (n + 2) := by rw [extract_data _ _ _ (Nat.le_refl _), List.take_of_length_le (by rw [List.length_drop, hz]; omega)]
      have hrz : (r.extract (n + 2) r.size).size = r.size - (n + 2) := by rw [ByteArray.size_extract]; omega
      have HRest : Hid (Ends (r.extract (n + 2) r.size).data.toList ns) := Lib.hid (by rw [hrest]; exact h6)
      have HGn : Hid (sizeGo none ls = sizeGo o (l :: ns)) := Lib.hid (by rw [HG.out, h5])
      have HN1 : Hid ((r.extract n (n + 2)).data.toList = crlf) := Lib.hid (by rw [hat n h1]; exact h2)
      have HN2 : Hid (∀ j, j < n → (r.extract j (j + 2)).data.toList ≠ crlf) := Lib.hid (fun j hj => by rw [hat j (by omega)]; exact h3 j hj)
      have HL := Lib.hid (fun u => line_any (r.extract 0 n) u (by rw [ByteArray.size_extract]; omega))
      have HX := Lib.hid hx
      have HRz := Lib.hid hrz
      clear h2 h3 h4 h5 h6 hat hx hrest hrz HE HG h0
      go_wp2_with fail
      go_loopw [4] (fun i wx => ∃ (j : Nat), i = .int .i64 j ∧ j ≤ n ∧ wr = wx) (fun i _ => n - (intOf i).toNat)
      case atStart => exact ⟨0, rfl, by omega, rfl⟩
      case round =>
        obtain ⟨j, rfl, hj, rfl⟩ := hrel
        have j0 : (0 : Int) ≤ (j : Int) := by omega
        have j1 : (j : Int) + 2 ≤ (r.size : Int) := by omega
        by_cases hjn : j < n
        · have q2 := beq_list_no (HN2.out j hjn)
          go_wp2_with fail
          go_roundw
          case rel => exact ⟨j + 1, by go_num, by omega, trivial⟩
          case measure => simp [intOf]; omega
        · obtain rfl : j = n := by omega
          have q2 := beq_list_yes HN1.out
          have q3 : ¬ (r.size : Int) < (j : Int) + 2 := by omega
          go_wp2_with fail
          refine (HL.out _).mono ?_
          rintro e w2 ⟨rfl, hb2⟩
          have HB2 := Lib.hid (HB.out.trans (hb2.mono HB.out.size))
          clear hb2 HL
          cases hlo : lineOf l with
          | none =>
            have hv := lineV_none (s := r.extract 0 j) (by rw [HX.out]; exact hlo)
            rw [hv]
            have HR : Hid (sizeGo none ls = none) := Lib.hid (by rw [HGn.out, sizeGo, hlo])
            clear hv hlo
            go_wp2_with fail
            go_ret
            rw [HR.out]
            exact ⟨rfl, HB2.out⟩
          | some p =>
            obtain ⟨N, V⟩ := p
            have hv := lineV_some (s := r.extract 0 j) (by rw [HX.out]; exact hlo)
            rw [hv]
            have HR : Hid (sizeGo none ls = if N = lengthName then (if o.isSome then none else match numOf V with | none => none | some n => sizeGo (some n) ns) else sizeGo o ns) := Lib.hid (by rw [HGn.out, sizeGo, hlo]; rfl)
            obtain ⟨nb, hnb⟩ : ∃ nb : ByteArray, nb = ⟨N.toArray⟩ := ⟨_, rfl⟩
            obtain ⟨vb, hvb⟩ : ∃ vb : ByteArray, vb = ⟨V.toArray⟩ := ⟨_, rfl⟩
            have hnd : nb.data.toList = N := by rw [hnb]
            have hvd : vb.data.toList = V := by rw [hvb]
            rw [← hnb, ← hvb]
            have hvz : vb.size ≤ 1000000 := by
              have h1 := lineOf_len hlo
              rw [← HX.out] at h1
              have h2 : (r.extract 0 j).data.toList.length = (r.extract 0 j).size := rfl
              rw [h2, ByteArray.size_extract, ← hvd] at h1
              have h3 : vb.data.toList.length = vb.size := rfl
              omega
            have HLen := Lib.hid (fun u => length_any vb u hvz)
            clear hv hlo hnb hvb
            by_cases hN : N = lengthName
            · have q4 := beq_list_yes (hnd.trans hN)
              unfold lengthName at q4
              rw [if_pos hN] at HR
              clear hN hnd
              cases o with
              | some n0 =>
                have q5 : (0 : Int) ≤ z := by rw [HZ.out]; unfold sizeV; simp
                have HR2 : Hid (sizeGo none ls = none) := Lib.hid HR.out
                clear HR
                go_wp2_with fail
                go_ret
                rw [HR2.out]
                exact ⟨rfl, HB2.out⟩
              | none =>
                have q5 : ¬ (0 : Int) ≤ z := by rw [HZ.out]; unfold sizeV; decide
                go_wp2_with fail
                refine (HLen.out _).mono ?_
                rintro e w3 ⟨rfl, hb3⟩
                have HB3 := Lib.hid (HB2.out.trans (hb3.mono HB2.out.size))
                rw [hvd]
                clear hb3 HLen
                unfold lenV
                cases hnum : numOf V with
                | none =>
                  have HR2 : Hid (sizeGo none ls = none) := Lib.hid (by rw [HR.out, hnum]; rfl)
                  clear HR hnum
                  go_wp2_with fail
                  go_ret
                  rw [HR2.out]
                  exact ⟨rfl, HB3.out⟩
                | some m =>
                  have HR2 : Hid (sizeGo none ls = sizeGo (some m) ns) := Lib.hid (by rw [HR.out, hnum]; rfl)
                  have q6 : ¬ (m : Int) < 0 := by omega
                  clear HR hnum
                  go_wp2_with fail
                  go_roundw
                  case rel => exact ⟨_, some m, ns, _, rfl, rfl, Lib.hid rfl, HRest, HR2, by have := HRz.out; omega, HB3⟩
                  case measure => have := HRz.out; simp [lenOfV]; omega
            · have q4 := beq_list_no (fun e => hN (hnd.symm.trans e))
              unfold lengthName at q4
              rw [if_neg hN] at HR
              clear hN hnd
              go_wp2_with fail
              go_roundw
              case rel => exact ⟨_, o, ns, _, rfl, rfl, HZ, HRest, HR, by have := HRz.out; omega, HB2⟩
              case measure => have := HRz.out; simp [lenOfV]; omega
theorem frPair_none {r : ByteArray} (he : endOf (r.data.toList.take 100) = none) : frPair r = if 100 ≤ r.size ∨ r.data.toList.take 2 = crlf then (⟨#[]⟩, false, ⟨#[]⟩, true) else (⟨#[]⟩, false, r, false) := by
  have hz : r.data.toList.length = r.size := rfl
  unfold frPair
  rw [frOf_none he, hz]
  by_cases h : 100 ≤ r.size ∨ r.data.toList.take 2 = [13, 10]
  · simp only [if_pos h]
  · simp only [if_neg h]
theorem frPair_some {r : ByteArray} {i : Nat} (he : endOf (r.data.toList.take 100) = some i) : frPair r = match headSize (r.data.toList.take i) with
    | none => (⟨#[]⟩, false, ⟨#[]⟩, true)
    | some n => if r.size < i + 4 + n then (⟨#[]⟩, false, r, false) else (r.extract (i + 4) (i + 4 + n), true, r.extract (i + 4 + n) r.size, false) := by
  have hz : r.data.toList.length = r.size := rfl
  unfold frPair
  rw [frOf_some he, hz]
  cases headSize (r.data.toList.take i) with
  | none => rfl
  | some n =>
    simp only
    by_cases h : r.size < i + 4 + n
    · simp only [if_pos h]
    · simp only [if_neg h]
theorem take_ends {r : List UInt8} {i : Nat} (h : endOf (r.take 100) = some i) : r.take (i + 2) = r.take i ++ crlf ∧ i + 4 ≤ 100 ∧ i + 4 ≤ r.length := by
  obtain ⟨h1, h2⟩ := endOf_lt _ _ h
  rw [List.length_take] at h1
  refine ⟨?_, by omega, by omega⟩
  have h3 : ((r.take 100).drop i).take 2 = crlf := by
    have := congrArg (List.take 2) h2
    rw [List.take_take] at this
    exact this
  rw [List.drop_take, List.take_take, Nat.min_eq_left (by omega)] at h3
  rw [List.take_add, h3]

theorem wp_append_run {P : Program} {w w' : World} {o : Oper} {a : Act} {K : Act → World → Prop} {Q : Exit → Act → World → Prop} {v u v' : Value} (s x : Operand) (t t2 : TypeId)
    (ho : o.op = .call { callee := .builtin .append, args := #[s, x], argTypes := #[t, t2] }) (hs : a.eval s = v) (hx : a.eval x = u) (hr : (Builtin.append_ #[t, t2] o.type #[v, u]).run P w = .ok v' w') (h : K (a.put o.dst v') w') : o.wp P a w K Q := by
  unfold Oper.wp execOp
  simp only [ho, resolve, invoke, builtin, Sem.run_bind, Sem.run_pure, Result.andThen_ok, List.map_toArray, List.map_cons, List.map_nil, hs, hx, hr]
  exact h
theorem wpList_append_run {P : Program} {w w' : World} {ops : Array Oper} {rest : List Oper} {o : Oper} {a : Act} {Q : Exit → Act → World → Prop} {v u v' : Value} (hgd : o.guard = none) (s x : Operand) (t t2 : TypeId)
    (ho : o.op = .call { callee := .builtin .append, args := #[s, x], argTypes := #[t, t2] }) (hs : a.eval s = v) (hx : a.eval x = u) (hr : (Builtin.append_ #[t, t2] o.type #[v, u]).run P w = .ok v' w') (h : wpList P ops Q rest (a.put o.dst v') w') : wpList P ops Q (o :: rest) a w :=
  wpList_plain hgd fun _ hK => wp_append_run s x t t2 ho hs hx hr (hK _ _ h)

set_option maxRecDepth 100000 in
set_option maxHeartbeats 16000000 in
theorem RSplit_any (s : ByteArray) (w : World) (hs : s.size ≤ 900000) :
    Calls Tryd.prog 14 #[.string s] w fun e w' => ∃ v, e = .returned (.tuple #[v, .string (splitB s).2.1, .int .i64 (numB (splitB s).2.2)]) ∧
      w'.ownsRow w.heap.size sK 1 v (splitB s).1.length (strCells (splitB s).1) ∧ Below w.heap.size w w' := by
  have hlen := splitB_len s
  obtain ⟨P, hP⟩ : ∃ P, P = splitB s := ⟨_, rfl⟩
  rw [← hP] at hlen ⊢
  have HP0 := Lib.hid hP
  clear hP
  go_enter Tryd.func14, Tryd.ntmps14
  go_wp2_with fail
  go_loopw [0, 5] (fun sv ov wr => ∃ (r : ByteArray) (bs : List ByteArray), sv = .string r ∧ Hid (wr.ownsRow w.heap.size sK 1 ov bs.length (strCells bs)) ∧ Hid (P = (bs ++ (splitB r).1, (splitB r).2)) ∧ r.size ≤ 900000 ∧ Hid (Below w.heap.size w wr)) (fun sv _ _ => lenOfV sv)
  case atStart => exact ⟨s, [], rfl, Lib.hid (World.ownsRow_nil _ _ _ _), Lib.hid (by rw [HP0.out]; rfl), hs, Lib.hid (Below.refl _ _)⟩
  case round =>
    obtain ⟨r, bs, rfl, HO, HP, hr, HB⟩ := hrel
    have hz : r.data.toList.length = r.size := rfl
    have hbl : bs.length ≤ 1000000 := by
      have := congrArg (fun p => p.1.length) HP.out
      simp only [List.length_append] at this
      omega
    have HEn := Lib.hid (fun u => end_any r u (by omega))
    obtain ⟨A5, c5, rfl⟩ := owns_slice HO.out
    cases he : endOf (r.data.toList.take 100) with
    | none =>
      have hE0 : endB r = 0 := by unfold endB; rw [he]
      rw [hE0] at HEn
      have hfr := frPair_none he
      have hend : (frPair r).2.1 = false → P = (bs, (frPair r).2.2.1, (frPair r).2.2.2) := fun h => by
        rw [HP.out, splitB_end r h, List.append_nil]
      clear hE0 he
      by_cases h100 : 100 ≤ r.size
      · have q1 : (100 : Int) ≤ (r.size : Int) := by omega
        rw [if_pos (.inl h100)] at hfr
        rw [hfr] at hend
        have HR := Lib.hid (hend rfl)
        clear hend hfr h100
        go_wp2_with fail
        refine (HEn.out _).mono ?_
        rintro e w2 ⟨rfl, rfl⟩
        go_wp2_with fail
        refine bodyPost_ret (by simp [results, Tryd.results14, go_sem]; rfl) rfl ?_
        rw [HR.out]
        exact ⟨_, rfl, HO.out, HB.out⟩
      · have q1 : ¬ (100 : Int) ≤ (r.size : Int) := by omega
        by_cases h2 : 2 ≤ r.size
        · have q2 : (2 : Int) ≤ (r.size : Int) := by omega
          have hx : (r.extract 0 2).data.toList = r.data.toList.take 2 := by rw [extract_data _ _ _ h2]; rfl
          by_cases hc : (r.extract 0 2).data.toList = [13, 10]
          · have q3 := beq_list_yes hc
            rw [if_pos (.inr (by rw [← hx]; exact hc))] at hfr
            rw [hfr] at hend
            have HR := Lib.hid (hend rfl)
            clear hend hfr h100 hc hx
            go_wp2_with fail
            refine (HEn.out _).mono ?_
            rintro e w2 ⟨rfl, rfl⟩
            go_wp2_with fail
            refine bodyPost_ret (by simp [results, Tryd.results14, go_sem]; rfl) rfl ?_
            rw [HR.out]
            exact ⟨_, rfl, HO.out, HB.out⟩
          · have q3 := beq_list_no hc
            rw [if_neg (by rintro (h | h); exact h100 h; exact hc (by rw [hx]; exact h))] at hfr
            rw [hfr] at hend
            have HR := Lib.hid (hend rfl)
            clear hend hfr h100 hc hx
            go_wp2_with fail
            refine (HEn.out _).mono ?_
            rintro e w2 ⟨rfl, rfl⟩
            go_wp2_with fail
            refine bodyPost_ret (by simp [results, Tryd.results14, go_sem]; rfl) rfl ?_
            rw [HR.out]
            exact ⟨_, rfl, HO.out, HB.out⟩
        · have q2 : ¬ (2 : Int) ≤ (r.size : Int) := by omega
          rw [if_neg (by
            rintro (h | h)
            · exact h100 h
            · have := congrArg List.length h
              rw [List.length_take, hz] at this
              simp at this
              omega)] at hfr
          rw [hfr] at hend
          have HR := Lib.hid (hend rfl)
          clear hend hfr h100
          go_wp2_with fail
          refine (HEn.out _).mono ?_
          rintro e w2 ⟨rfl, rfl⟩
          go_wp2_with fail
          refine bodyPost_ret (by simp [results, Tryd.results14, go_sem]; rfl) rfl ?_
          rw [HR.out]
          exact ⟨_, rfl, HO.out, HB.out⟩
    | some i =>
      obtain ⟨ht, hi1, hi2⟩ := take_ends he
      rw [hz] at hi2
      have hE0 : endB r = i + 4 := by unfold endB; rw [he]
      rw [hE0] at HEn
      have hfr := frPair_some he
      have hend : (frPair r).2.1 = false → P = (bs, (frPair r).2.2.1, (frPair r).2.2.2) := fun h => by
        rw [HP.out, splitB_end r h, List.append_nil]
      have hx : (r.extract 0 (i + 2)).data.toList = r.data.toList.take i ++ crlf := by rw [extract_data _ _ _ (by omega), ← ht]; simp
      have HH := Lib.hid (fun u => Rhead_any (r.extract 0 (i + 2)) (headLines (r.data.toList.take i)) u (by rw [ByteArray.size_extract]; omega) (.inr ⟨_, hx, rfl⟩))
      have hhs : sizeGo none (headLines (r.data.toList.take i)) = headSize (r.data.toList.take i) := rfl
      rw [hhs] at HH
      have q1 : (((i + 4 : Nat) : Int) == 0) = false := by simpa using (fun e : ((i + 4 : Nat) : Int) = 0 => by omega)
      have q1' : ((i : Int) + 4 == 0) = false := by simpa using (fun e : (i : Int) + 4 = 0 => by omega)
      have q2 : (i : Int) + 4 - 2 = ((i + 2 : Nat) : Int) := by omega
      have q3 : (i : Int) + 2 ≤ (r.size : Int) := by omega
      have q4 : (i : Int) + 4 ≤ (r.size : Int) := by omega
      clear hE0 he ht hx hhs
      cases hn : headSize (r.data.toList.take i) with
      | none =>
        rw [hn] at hfr HH
        simp only at hfr
        rw [hfr] at hend
        have HR := Lib.hid (hend rfl)
        clear hend hfr hn
        go_wp2_with fail
        refine (HEn.out _).mono ?_
        rintro e w2 ⟨rfl, rfl⟩
        go_wp2_with fail
        refine (HH.out _).mono ?_
        rintro e w3 ⟨rfl, hb3⟩
        have HB3 := Lib.hid (HB.out.trans (hb3.mono HB.out.size))
        have HO3 := Lib.hid (own_below HO.out hb3)
        clear hb3
        unfold sizeV
        go_wp2_with fail
        refine bodyPost_ret (by simp [results, Tryd.results14, go_sem]; rfl) rfl ?_
        rw [HR.out]
        exact ⟨_, rfl, HO3.out, HB3.out⟩
      | some n =>
        rw [hn] at hfr HH
        simp only at hfr
        have q5 : ¬ (n : Int) < 0 := by omega
        by_cases hlt : r.size < i + 4 + n
        · rw [if_pos hlt] at hfr
          rw [hfr] at hend
          have HR := Lib.hid (hend rfl)
          have q6 : (r.size : Int) - ((i : Int) + 4) < (n : Int) := by omega
          clear hend hfr hn
          go_wp2_with fail
          refine (HEn.out _).mono ?_
          rintro e w2 ⟨rfl, rfl⟩
          go_wp2_with fail
          refine (HH.out _).mono ?_
          rintro e w3 ⟨rfl, hb3⟩
          have HB3 := Lib.hid (HB.out.trans (hb3.mono HB.out.size))
          have HO3 := Lib.hid (own_below HO.out hb3)
          clear hb3
          unfold sizeV
          go_wp2_with fail
          refine bodyPost_ret (by simp [results, Tryd.results14, go_sem]; rfl) rfl ?_
          rw [HR.out]
          exact ⟨_, rfl, HO3.out, HB3.out⟩
        · rw [if_neg hlt] at hfr
          have q6 : ¬ (r.size : Int) - ((i : Int) + 4) < (n : Int) := by omega
          have q7 : (i : Int) + 4 + (n : Int) ≤ (r.size : Int) := by omega
          have HStep : Hid (P = ((bs ++ [r.extract (i + 4) (i + 4 + n)]) ++ (splitB (r.extract (i + 4 + n) r.size)).1, (splitB (r.extract (i + 4 + n) r.size)).2)) := Lib.hid (by
            obtain ⟨h1, _, _⟩ := splitB_step r (by rw [hfr])
            rw [HP.out, h1, hfr]
            simp)
          have HSz : Hid ((r.extract (i + 4 + n) r.size).size = r.size - (i + 4 + n)) := Lib.hid (by rw [ByteArray.size_extract]; omega)
          clear hend hfr hn HP
          go_wp2_with fail
          refine (HEn.out _).mono ?_
          rintro e w2 ⟨rfl, rfl⟩
          go_wp2_with fail
          refine (HH.out _).mono ?_
          rintro e w3 ⟨rfl, hb3⟩
          have HB3 := Lib.hid (HB.out.trans (hb3.mono HB.out.size))
          have HO3 := Lib.hid (own_below HO.out hb3)
          clear hb3
          have hsz3 := HB3.out.size
          have hbA := below_new w3 (.cells #[.string (r.extract (i + 4) (i + 4 + n))] sK)
          obtain ⟨A9, c9, w9, hrun, hN9, hgr9, _⟩ := push_str (x := r.extract (i + 4) (i + 4 + n)) (g := w3.heap.size) (W := w3.alloc (.cells #[.string (r.extract (i + 4) (i + 4 + n))] sK)) (heap_alloc_new w3 _) (own_below HO3.out hbA) hbl (by simp; omega)
          have HN9 := Lib.hid hN9
          have HB9 := Lib.hid (((HB3.out.trans (hbA.mono hsz3))).grown hgr9 (by simp; omega) (fun k e => ownBlock_ge HO3.out k e))
          clear hN9 hgr9 hbA
          unfold sizeV
          go_wp2_with (at_builtin; go_must (refine wpList_append_run rfl _ _ 27 27 rfl rfl rfl hrun ?_))
          go_roundw
          case rel => exact ⟨_, bs ++ [r.extract (i + 4) (i + 4 + n)], rfl, HN9, HStep, by have := HSz.out; omega, HB9⟩
          case measure => have := HSz.out; simp [lenOfV]; omega
end Go.Proofs.YtjlehlkkgkplmaaDoor
