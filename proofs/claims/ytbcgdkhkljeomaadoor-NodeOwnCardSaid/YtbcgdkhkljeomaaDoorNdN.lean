/-
  How deep a node's tree is, its first place: by the reference.
-/
import Derived.Test.YtbcgdkhkljeomaaDoorProg
import Derived.Test.YtbcgdkhkljeomaaDoorReg
import Derived.WalkKit
import Derived.WalkSpells
import Derived.WalkLawsBesides
import Derived.Lib.Hide
import Derived.Lib.MinMax
import Derived.Deep.QuietTactic
import Derived.BigQuiet
import Derived.OwnWalk
import Derived.Deep.AppendLies
import Derived.KernelRfl
import Derived.Lib.MinMax
import Derived.Test.YtbcgdkhkljeomaaDoorNdL
set_option linter.unusedSimpArgs false
set_option linter.unusedVariables false
namespace Go.Proofs.YtbcgdkhkljeomaaDoor
open Go.RowKit Go.Shelf

theorem fold_congr {α β : Type} {l : List α} {f g : β → α → β} (h : ∀ b, ∀ x ∈ l, f b x = g b x) : ∀ b, l.foldl f b = l.foldl g b := by
  induction l with
  | nil => intro b; rfl
  | cons x l ih => intro b; rw [List.foldl_cons, List.foldl_cons, h b x List.mem_cons_self, ih (fun b y hy => h b y (List.mem_cons_of_mem _ hy))]
theorem deepF_more {t : List Nd} (h : nodesOk 0 t = true) : ∀ (n f i : Nat), i < n → i < f → i < t.length → deepF t f i = deepAt t i
  | 0, _, i, h1, _, _ => by omega
  | n + 1, f, i, h1, h2, h3 => by
    obtain ⟨f, rfl⟩ : ∃ f', f = f' + 1 := ⟨f - 1, by omega⟩
    unfold deepAt deepF
    rw [fold_congr (g := fun m k => max m (deepF t i k.toNat)) (fun b k hk => by
      have := nodes_kid h h3 hk
      rw [deepF_more h n f k.toNat (by omega) (by omega) (by omega), deepF_more h n i k.toNat (by omega) (by omega) (by omega)])]
theorem deepAt_eq {t : List Nd} (h : nodesOk 0 t = true) {i : Nat} (hi : i < t.length) {x : Nd} (hx : t[i]? = some x) : deepAt t i = x.kids.foldl (fun m k => max m (deepAt t k.toNat)) 0 + 1 := by
  have h9 : deepAt t i = deepF t (i + 1) i := rfl
  rw [h9]
  unfold deepF
  rw [fold_congr (g := fun m k => max m (deepAt t k.toNat)) (fun b k hk => by
    have := nodes_kid h hi hk
    rw [deepF_more h i i k.toNat (by omega) (by omega) (by omega)]), nodeAt_some hx]
theorem firstF_more {t : List Nd} (h : nodesOk 0 t = true) : ∀ (n f i : Nat), i < n → i < f → i < t.length → firstF t f i = firstAt t i
  | 0, _, i, h1, _, _ => by omega
  | n + 1, f, i, h1, h2, h3 => by
    obtain ⟨f, rfl⟩ : ∃ f', f = f' + 1 := ⟨f - 1, by omega⟩
    unfold firstAt firstF
    rw [fold_congr (g := fun m k => min m (firstF t i k.toNat)) (fun b k hk => by
      have := nodes_kid h h3 hk
      rw [firstF_more h n f k.toNat (by omega) (by omega) (by omega), firstF_more h n i k.toNat (by omega) (by omega) (by omega)])]
theorem firstAt_eq {t : List Nd} (h : nodesOk 0 t = true) {i : Nat} (hi : i < t.length) {x : Nd} (hx : t[i]? = some x) : firstAt t i = x.kids.foldl (fun m k => min m (firstAt t k.toNat)) i := by
  have h9 : firstAt t i = firstF t (i + 1) i := rfl
  rw [h9]
  unfold firstF
  rw [fold_congr (g := fun m k => min m (firstAt t k.toNat)) (fun b k hk => by
    have := nodes_kid h hi hk
    rw [firstF_more h i i k.toNat (by omega) (by omega) (by omega)]), nodeAt_some hx]
theorem fold_max_le {f : Int → Nat} {c : Nat} : ∀ (l : List Int) (b : Nat), b ≤ c → (∀ k ∈ l, f k ≤ c) → l.foldl (fun m k => max m (f k)) b ≤ c
  | [], b, h, _ => h
  | k :: l, b, h, hk => fold_max_le l _ (Nat.max_le.2 ⟨h, hk k List.mem_cons_self⟩) (fun y hy => hk y (List.mem_cons_of_mem _ hy))
theorem fold_min_le {f : Int → Nat} : ∀ (l : List Int) (b : Nat), l.foldl (fun m k => min m (f k)) b ≤ b
  | [], b => Nat.le_refl _
  | k :: l, b => Nat.le_trans (fold_min_le l _) (Nat.min_le_left _ _)
theorem deepAt_le {t : List Nd} (h : nodesOk 0 t = true) : ∀ (n i : Nat), i < n → i < t.length → deepAt t i ≤ i + 1
  | 0, i, h1, _ => by omega
  | n + 1, i, h1, h2 => by
    have g := List.getElem?_eq_getElem h2
    rw [deepAt_eq h h2 g]
    have := fold_max_le (f := fun k => deepAt t k.toNat) (c := i) (t[i]).kids 0 (by omega) (fun k hk => by
      have h3 := nodes_kid h h2 (k := k) (by rw [nodeAt_some g]; exact hk)
      have := deepAt_le h n k.toNat (by omega) (by omega)
      omega)
    omega
theorem firstAt_le {t : List Nd} (h : nodesOk 0 t = true) {i : Nat} (h2 : i < t.length) : firstAt t i ≤ i := by
  have g := List.getElem?_eq_getElem h2
  rw [firstAt_eq h h2 g]
  exact fold_min_le _ _

set_option maxRecDepth 100000 in
set_option maxHeartbeats 8000000 in
theorem refDeep_any (t : List Nd) (hok : nodesOk 0 t = true) (hI : IntN t) (hn : t.length ≤ 1000000) : ∀ (m i : Nat), i < m → i < t.length → ∀ (A : Option Addr) (c : Nat) (w : World), HoldsN w A t →
    Calls Tryd.prog 42 #[.slice A t.length c, .int .i64 i] w fun e w' => e = .returned (.int .i64 (deepAt t i)) ∧ w' = w := by
  intro m
  induction m with
  | zero => intro i h1; omega
  | succ m ih =>
    intro i h1 hi A c w hH
    have HR := Lib.hid ih
    have g := List.getElem?_eq_getElem hi
    have hmem := List.getElem_mem hi
    have HS := Lib.hid (deepAt_eq hok hi g)
    have HLE := deepAt_le hok (i + 1) i (by omega) hi
    have hkd := fun k hk => nodes_kid hok hi (k := k) hk
    rw [nodeAt_some g] at hkd
    obtain ⟨b, off, rfl, c0, c1, B, c2, c3, hK, hc⟩ := hH i _ g
    obtain ⟨z1, z2, z3, z4⟩ := hI _ hmem
    have HDL := Lib.hid (fun k hk => deepAt_le hok (k + 1) k (by omega) hk)
    generalize t[i] = x at *
    have HHN := Lib.hid hH
    have HKx := Lib.hid hK
    have HKD := Lib.hid hkd
    clear ih hH hK hkd g hmem z1 z4 hI hok c0 c1 z3
    generalize hkids : x.kids = ks at *
    clear hkids
    have HSN : Hid ((ks.foldl (fun m k => max m (deepAt t k.toNat)) 0 : Nat) + 1 = deepAt t i) := Lib.hid HS.out.symm
    go_enter Tryd.func42, Tryd.ntmps42
    go_wp2_with fail
    go_loopw [5, 6] (fun s v wr => ∃ (q d : Nat), v = .int .i64 q ∧ q ≤ ks.length ∧ s = .int .i64 d ∧ d ≤ i ∧ Hid ((ks.drop q).foldl (fun m k => max m (deepAt t k.toNat)) d + 1 = deepAt t i) ∧ wr = w) (fun _ v _ => ks.length - (intOf v).toNat)
    case atStart => exact ⟨0, 0, rfl, Nat.zero_le _, rfl, by omega, HSN, rfl⟩
    case round =>
      clear HS HSN
      obtain ⟨q, d, rfl, hq, rfl, hd, HF, rfl⟩ := hrel
      by_cases hlt : q < ks.length
      · have g := List.getElem?_eq_getElem hlt
        have hmem := List.getElem_mem hlt
        obtain ⟨hk0, hk9⟩ := HKD.out _ hmem
        obtain ⟨b2, off2, rfl, f0⟩ := HKx.out q _ g
        have HF2 : Hid ((ks.drop (q + 1)).foldl (fun m k => max m (deepAt t k.toNat)) (max d (deepAt t ks[q].toNat)) + 1 = deepAt t i) := Lib.hid (by rw [← HF.out, List.drop_eq_getElem_cons hlt, List.foldl_cons])
        have HX := Lib.hid (HR.out ks[q].toNat (by omega) (by omega) (some ⟨b, off, none⟩) c wr HHN.out)
        have hkk : ((ks[q].toNat : Nat) : Int) = ks[q] := by omega
        rw [hkk] at HX
        have hdl := HDL.out ks[q].toNat (by omega)
        have hdl2 : deepAt t ks[q].toNat ≤ i := by omega
        generalize ks[q] = k at *
        generalize deepAt t k.toNat = r at *
        have HMX : Hid (max (d : Int) (r : Int) = ((max d r : Nat) : Int)) := Lib.hid (by omega)
        clear g hmem hkk HF
        go_wp2_with fail
        refine HX.out.mono ?_
        rintro e W3 ⟨rfl, rfl⟩
        go_wp2_with fail
        go_roundw
        case rel => exact ⟨q + 1, max d r, by go_num, by omega, by rw [HMX.out], by omega, HF2, trivial⟩
        case measure => simp [intOf]; omega
      · obtain rfl : q = ks.length := by omega
        have HF2 : Hid (d + 1 = deepAt t i) := Lib.hid (by rw [← HF.out, List.drop_of_length_le (Nat.le_refl _)]; rfl)
        go_wp2_with fail
        go_ret
        exact ⟨by rw [← HF2.out]; rfl, rfl⟩
set_option maxRecDepth 100000 in
set_option maxHeartbeats 8000000 in
theorem refFirst_any (t : List Nd) (hok : nodesOk 0 t = true) (hI : IntN t) (hn : t.length ≤ 1000000) : ∀ (m i : Nat), i < m → i < t.length → ∀ (A : Option Addr) (c : Nat) (w : World), HoldsN w A t →
    Calls Tryd.prog 34 #[.slice A t.length c, .int .i64 i] w fun e w' => e = .returned (.int .i64 (firstAt t i)) ∧ w' = w := by
  intro m
  induction m with
  | zero => intro i h1; omega
  | succ m ih =>
    intro i h1 hi A c w hH
    have HR := Lib.hid ih
    have g := List.getElem?_eq_getElem hi
    have hmem := List.getElem_mem hi
    have HS := Lib.hid (firstAt_eq hok hi g)
    have hkd := fun k hk => nodes_kid hok hi (k := k) hk
    rw [nodeAt_some g] at hkd
    obtain ⟨b, off, rfl, c0, c1, B, c2, c3, hK, hc⟩ := hH i _ g
    obtain ⟨z1, z2, z3, z4⟩ := hI _ hmem
    have HDL := Lib.hid (fun k hk => firstAt_le hok (i := k) hk)
    generalize t[i] = x at *
    have HHN := Lib.hid hH
    have HKx := Lib.hid hK
    have HKD := Lib.hid hkd
    clear ih hH hK hkd g hmem z1 z4 hI hok c0 c1 z3
    generalize hkids : x.kids = ks at *
    clear hkids
    have HSN : Hid ((ks.foldl (fun m k => min m (firstAt t k.toNat)) i : Nat) = firstAt t i) := Lib.hid HS.out.symm
    go_enter Tryd.func34, Tryd.ntmps34
    go_wp2_with fail
    go_loopw [5, 6] (fun s v wr => ∃ (q d : Nat), v = .int .i64 q ∧ q ≤ ks.length ∧ s = .int .i64 d ∧ d ≤ i ∧ Hid ((ks.drop q).foldl (fun m k => min m (firstAt t k.toNat)) d = firstAt t i) ∧ wr = w) (fun _ v _ => ks.length - (intOf v).toNat)
    case atStart => exact ⟨0, i, rfl, Nat.zero_le _, rfl, by omega, HSN, rfl⟩
    case round =>
      clear HS HSN
      obtain ⟨q, d, rfl, hq, rfl, hd, HF, rfl⟩ := hrel
      by_cases hlt : q < ks.length
      · have g := List.getElem?_eq_getElem hlt
        have hmem := List.getElem_mem hlt
        obtain ⟨hk0, hk9⟩ := HKD.out _ hmem
        obtain ⟨b2, off2, rfl, f0⟩ := HKx.out q _ g
        have HF2 : Hid ((ks.drop (q + 1)).foldl (fun m k => min m (firstAt t k.toNat)) (min d (firstAt t ks[q].toNat)) = firstAt t i) := Lib.hid (by rw [← HF.out, List.drop_eq_getElem_cons hlt, List.foldl_cons])
        have HX := Lib.hid (HR.out ks[q].toNat (by omega) (by omega) (some ⟨b, off, none⟩) c wr HHN.out)
        have hkk : ((ks[q].toNat : Nat) : Int) = ks[q] := by omega
        rw [hkk] at HX
        have hdl := HDL.out ks[q].toNat (by omega)
        have hdl2 : firstAt t ks[q].toNat ≤ i := by omega
        generalize ks[q] = k at *
        generalize firstAt t k.toNat = r at *
        have HMX : Hid (min (d : Int) (r : Int) = ((min d r : Nat) : Int)) := Lib.hid (by omega)
        clear g hmem hkk HF
        go_wp2_with fail
        refine HX.out.mono ?_
        rintro e W3 ⟨rfl, rfl⟩
        go_wp2_with fail
        go_roundw
        case rel => exact ⟨q + 1, min d r, by go_num, by omega, by rw [HMX.out], by omega, HF2, trivial⟩
        case measure => simp [intOf]; omega
      · obtain rfl : q = ks.length := by omega
        have HF2 : Hid (d = firstAt t i) := Lib.hid (by rw [← HF.out, List.drop_of_length_le (Nat.le_refl _)]; rfl)
        go_wp2_with fail
        go_ret
        exact ⟨by rw [← HF2.out]; rfl, rfl⟩
end Go.Proofs.YtbcgdkhkljeomaaDoor
