/-
  UTF-8, and the reading of words, plainly. No program here.
-/
import Derived.Test.YtamclieppbnpiabGreatDoorJw1
set_option linter.unusedSimpArgs false
set_option linter.unusedVariables false
namespace Go.Proofs.YtamclieppbnpiabGreatDoor
open Go.RowKit Go.Lib

theorem dN2 {n b0 b1 b2 b3 : Nat} (c1 : b0 / 32 = 6) (c2 : 1 < n) (c3 : b1 / 64 = 2) (cv : 128 ≤ b0 % 32 * 64 + b1 % 64) : decodeN n b0 b1 b2 b3 = (b0 % 32 * 64 + b1 % 64, 2) := by
  unfold decodeN
  rw [if_neg (by omega), if_pos ⟨c1, c2, c3⟩, if_pos cv]
theorem dN3 {n b0 b1 b2 b3 : Nat} (c1 : b0 / 16 = 14) (c2 : 2 < n) (c3 : b1 / 64 = 2) (c4 : b2 / 64 = 2) (cv : 2048 ≤ b0 % 16 * 4096 + b1 % 64 * 64 + b2 % 64) (cs : b0 % 16 * 4096 + b1 % 64 * 64 + b2 % 64 < 55296 ∨ 57344 ≤ b0 % 16 * 4096 + b1 % 64 * 64 + b2 % 64) :
    decodeN n b0 b1 b2 b3 = (b0 % 16 * 4096 + b1 % 64 * 64 + b2 % 64, 3) := by
  unfold decodeN
  rw [if_neg (by omega), if_neg (by omega), if_pos ⟨c1, ⟨by omega, c3⟩, c2, c4⟩, if_pos ⟨cv, by omega⟩]
theorem dN4 {n b0 b1 b2 b3 : Nat} (c1 : b0 / 8 = 30) (c2 : 3 < n) (c3 : b1 / 64 = 2) (c4 : b2 / 64 = 2) (c5 : b3 / 64 = 2) (cv : 65536 ≤ b0 % 8 * 262144 + b1 % 64 * 4096 + b2 % 64 * 64 + b3 % 64) (cw : b0 % 8 * 262144 + b1 % 64 * 4096 + b2 % 64 * 64 + b3 % 64 ≤ 1114111) :
    decodeN n b0 b1 b2 b3 = (b0 % 8 * 262144 + b1 % 64 * 4096 + b2 % 64 * 64 + b3 % 64, 4) := by
  unfold decodeN
  rw [if_neg (by omega), if_neg (by omega), if_neg (by omega), if_pos ⟨c1, ⟨by omega, c3⟩, ⟨by omega, c4⟩, c2, c5⟩, if_pos ⟨cv, by omega⟩]

/-- A rune that is right. -/
def fineR (l : List UInt8) : Prop := ¬ ((decodeL l).1 = 65533 ∧ (decodeL l).2 = 1)
theorem four_of {l : List UInt8} (h : 3 < l.length) : ∃ a b c d r, l = a :: b :: c :: d :: r := by
  rcases l with _ | ⟨a, _ | ⟨b, _ | ⟨c, _ | ⟨d, r⟩⟩⟩⟩
  · simp at h
  · simp at h
  · simp at h
  · simp at h
  · exact ⟨_, _, _, _, _, rfl⟩
set_option maxRecDepth 100000 in
/-- How a right rune lies: none of its bytes but the first alone is below 128. -/
theorem fine_shape {l : List UInt8} (hne : l ≠ []) (hv : fineR l) :
    (∃ a r, l = a :: r ∧ a.toNat < 128 ∧ decodeL l = (a.toNat, 1)) ∨
    (∃ a b r, l = a :: b :: r ∧ 128 ≤ a.toNat ∧ 128 ≤ b.toNat ∧ (decodeL l).2 = 2 ∧ ∀ t, decodeL (a :: b :: t) = decodeL l) ∨
    (∃ a b c r, l = a :: b :: c :: r ∧ 128 ≤ a.toNat ∧ 128 ≤ b.toNat ∧ 128 ≤ c.toNat ∧ (decodeL l).2 = 3 ∧ ∀ t, decodeL (a :: b :: c :: t) = decodeL l) ∨
    (∃ a b c d r, l = a :: b :: c :: d :: r ∧ 128 ≤ a.toNat ∧ 128 ≤ b.toNat ∧ 128 ≤ c.toNat ∧ 128 ≤ d.toNat ∧ (decodeL l).2 = 4 ∧ ∀ t, decodeL (a :: b :: c :: d :: t) = decodeL l) := by
  have hl : 0 < l.length := List.length_pos_iff.2 hne
  unfold fineR at hv
  have hN := decodeL_N l
  rcases decodeN_shape l.length (l.getD 0 0).toNat (l.getD 1 0).toNat (l.getD 2 0).toNat (l.getD 3 0).toNat with ⟨c, e⟩ | ⟨c1, c2, c3, cv, e⟩ | ⟨c1, c2, c3, c4, cv, cs, e⟩ | ⟨c1, c2, c3, c4, c5, cv, cw, e⟩ | e
  · obtain ⟨a, r, rfl⟩ : ∃ a r, l = a :: r := by cases l with | nil => exact absurd rfl hne | cons a r => exact ⟨a, r, rfl⟩
    refine .inl ⟨a, r, rfl, by simpa using c, ?_⟩
    rw [hN, e]; simp
  · obtain ⟨a, b, r, rfl⟩ : ∃ a b r, l = a :: b :: r := by
      match l, c2 with
      | a :: b :: r, _ => exact ⟨a, b, r, rfl⟩
    simp only [List.getD_cons_zero, List.getD_cons_succ] at c1 c3 cv e hN
    refine .inr (.inl ⟨a, b, r, rfl, by omega, by omega, by rw [hN, e], fun t => ?_⟩)
    rw [hN, e, decodeL_N]
    simp only [List.getD_cons_zero, List.getD_cons_succ]
    exact dN2 c1 (by simp) c3 cv
  · obtain ⟨a, b, d, r, rfl⟩ : ∃ a b d r, l = a :: b :: d :: r := by
      match l, c2 with
      | a :: b :: d :: r, _ => exact ⟨a, b, d, r, rfl⟩
    simp only [List.getD_cons_zero, List.getD_cons_succ] at c1 c3 c4 cv cs e hN
    refine .inr (.inr (.inl ⟨a, b, d, r, rfl, by omega, by omega, by omega, by rw [hN, e], fun t => ?_⟩))
    rw [hN, e, decodeL_N]
    simp only [List.getD_cons_zero, List.getD_cons_succ]
    exact dN3 c1 (by simp) c3 c4 cv cs
  · obtain ⟨a, b, d, f, r, rfl⟩ := four_of c2
    simp only [List.getD_cons_zero, List.getD_cons_succ] at c1 c3 c4 c5 cv cw e hN
    refine .inr (.inr (.inr ⟨a, b, d, f, r, rfl, by omega, by omega, by omega, by omega, by rw [hN, e], fun t => ?_⟩))
    rw [hN, e, decodeL_N]
    simp only [List.getD_cons_zero, List.getD_cons_succ]
    rw [dN4 c1 (by simp) c3 c4 c5 cv cw]
  · rw [hN, e] at hv
    exact absurd ⟨rfl, rfl⟩ hv
/-- A right rune alone is decoded as it stands among others. -/
theorem dec_pre {l : List UInt8} (hne : l ≠ []) (hv : fineR l) (t : List UInt8) : decodeL (l.take (decodeL l).2 ++ t) = decodeL l := by
  rcases fine_shape hne hv with ⟨a, r, rfl, h1, h2⟩ | ⟨a, b, r, rfl, _, _, h, ht⟩ | ⟨a, b, c, r, rfl, _, _, _, h, ht⟩ | ⟨a, b, c, d, r, rfl, _, _, _, _, h, ht⟩
  · rw [h2]
    exact decodeL_ascii a t h1
  · have e : (a :: b :: r).take (decodeL (a :: b :: r)).2 = [a, b] := by rw [h]; rfl
    rw [e]; exact ht t
  · have e : (a :: b :: c :: r).take (decodeL (a :: b :: c :: r)).2 = [a, b, c] := by rw [h]; rfl
    rw [e]; exact ht t
  · have e : (a :: b :: c :: d :: r).take (decodeL (a :: b :: c :: d :: r)).2 = [a, b, c, d] := by rw [h]; rfl
    rw [e]; exact ht t
theorem dec_app {l : List UInt8} (hne : l ≠ []) (hv : fineR l) (t : List UInt8) : decodeL (l ++ t) = decodeL l := by
  have h := dec_pre hne hv (l.drop (decodeL l).2 ++ t)
  rw [← List.append_assoc, List.take_append_drop] at h
  exact h
/-- At a byte from 128 on: one byte wide just if it is wrong. -/
theorem fine_wide {c : UInt8} {r : List UInt8} (h : 128 ≤ c.toNat) : fineR (c :: r) ↔ (decodeL (c :: r)).2 ≠ 1 := by
  constructor
  · intro hv
    rcases fine_shape (by simp) hv with ⟨a, q, e, h1, h2⟩ | ⟨a, b, q, e, _, _, h3, ht⟩ | ⟨a, b, d, q, e, _, _, _, h3, ht⟩ | ⟨a, b, d, f, q, e, _, _, _, _, h3, ht⟩
    · cases e; omega
    · omega
    · omega
    · omega
  · intro hw hv
    exact hw hv.2
theorem fine_small {c : UInt8} {r : List UInt8} (h : c.toNat < 128) : fineR (c :: r) := by
  unfold fineR
  rw [decodeL_ascii c r h]
  simp only
  omega
/-- The bytes of a right rune whose first is one from 128 on are such. -/
theorem fine_high {l : List UInt8} (hne : l ≠ []) (hv : fineR l) (h : 128 ≤ (l.headD 0).toNat) : ∀ x ∈ l.take (decodeL l).2, 128 ≤ x.toNat := by
  rcases fine_shape hne hv with ⟨a, r, rfl, h1, h2⟩ | ⟨a, b, r, rfl, q1, q2, h3, _⟩ | ⟨a, b, c, r, rfl, q1, q2, q3, h3, _⟩ | ⟨a, b, c, d, r, rfl, q1, q2, q3, q4, h3, _⟩
  · simp at h; omega
  · rw [h3]; intro x hx; simp at hx; rcases hx with rfl | rfl <;> assumption
  · rw [h3]; intro x hx; simp at hx; rcases hx with rfl | rfl | rfl <;> assumption
  · rw [h3]; intro x hx; simp at hx; rcases hx with rfl | rfl | rfl | rfl <;> assumption

theorem valid_fine {l : List UInt8} (hne : l ≠ []) (hv : validD l = true) : fineR l ∧ validD (l.drop (decodeL l).2) = true := by
  rw [validD_step l hne] at hv
  by_cases h : (decodeL l).1 = 65533 ∧ (decodeL l).2 = 1
  · rw [if_pos h] at hv; cases hv
  · rw [if_neg h] at hv; exact ⟨h, hv⟩
theorem valid_app : ∀ (n : Nat) (a b : List UInt8), a.length ≤ n → validD a = true → validD (a ++ b) = validD b
  | 0, a, b, hn, _ => by
    have : a = [] := List.eq_nil_of_length_eq_zero (by omega)
    subst this; rfl
  | n + 1, a, b, hn, hv => by
    by_cases hne : a = []
    · subst hne; rfl
    · obtain ⟨h1, h2⟩ := valid_fine hne hv
      have hle := decodeL_le a hne
      have hw := decodeL_width a
      have hl : 0 < a.length := List.length_pos_iff.2 hne
      rw [validD_step (a ++ b) (by simp [hne]), dec_app hne h1, if_neg h1, List.drop_append_of_le_length hle]
      exact valid_app n _ b (by rw [List.length_drop]; omega) h2
theorem valid_app' {a b : List UInt8} (ha : validD a = true) (hb : validD b = true) : validD (a ++ b) = true := (valid_app _ a b (Nat.le_refl _) ha).trans hb
theorem valid_one {l : List UInt8} (hne : l ≠ []) (hv : fineR l) : validD (l.take (decodeL l).2) = true := by
  have h := dec_pre hne hv []
  rw [List.append_nil] at h
  have hw := decodeL_width l
  have hle := decodeL_le l hne
  have hl : 0 < l.length := List.length_pos_iff.2 hne
  have hn2 : l.take (decodeL l).2 ≠ [] := fun e => by
    have := congrArg List.length e
    rw [List.length_take, List.length_nil] at this
    omega
  rw [validD_step _ hn2, h, if_neg hv]
  rw [List.drop_of_length_le (by rw [List.length_take]; omega)]
  rfl
theorem valid_byte {c : UInt8} (h : c.toNat < 128) : validD [c] = true := by
  rw [validD_cons c [] h]; rfl
theorem u8 {z : Int} (h0 : 0 ≤ z) (h1 : z < 256) : (z.toNat.toUInt8).toNat = z.toNat := by
  show (UInt8.ofNat z.toNat).toNat = _
  rw [UInt8.toNat_ofNat']
  omega
theorem valid_encode (r : Int) : validD (encodeRune r) = true := by
  unfold encodeRune
  by_cases c1 : 0 ≤ r ∧ r ≤ 127
  · rw [encodeRuneZ_one c1.1 c1.2]
    exact valid_byte (by rw [u8 (by omega) (by omega)]; omega)
  · by_cases c2 : 128 ≤ r ∧ r ≤ 2047
    · rw [encodeRuneZ_two c2.1 c2.2]
      simp only [List.map_cons, List.map_nil]
      have e0 := u8 (z := 192 + r / 64) (by omega) (by omega)
      have e1 := u8 (z := 128 + r % 64) (by omega) (by omega)
      have hd : decodeL [(192 + r / 64).toNat.toUInt8, (128 + r % 64).toNat.toUInt8] = (((192 + r / 64).toNat % 32 * 64 + (128 + r % 64).toNat % 64), 2) := by
        rw [decodeL_N]
        simp only [List.getD_cons_zero, List.getD_cons_succ, e0, e1]
        exact dN2 (by omega) (by simp) (by omega) (by omega)
      rw [validD_step _ (by simp), hd, if_neg (by simp)]
      rfl
    · by_cases c3 : (2048 ≤ r ∧ r < 55296) ∨ (57343 < r ∧ r ≤ 65535)
      · rw [encodeRuneZ_three c3]
        simp only [List.map_cons, List.map_nil]
        have e0 := u8 (z := 224 + r / 4096) (by omega) (by omega)
        have e1 := u8 (z := 128 + r / 64 % 64) (by omega) (by omega)
        have e2 := u8 (z := 128 + r % 64) (by omega) (by omega)
        have hd : decodeL [(224 + r / 4096).toNat.toUInt8, (128 + r / 64 % 64).toNat.toUInt8, (128 + r % 64).toNat.toUInt8] = (((224 + r / 4096).toNat % 16 * 4096 + (128 + r / 64 % 64).toNat % 64 * 64 + (128 + r % 64).toNat % 64), 3) := by
          rw [decodeL_N]
          simp only [List.getD_cons_zero, List.getD_cons_succ, e0, e1, e2]
          exact dN3 (by omega) (by simp) (by omega) (by omega) (by omega) (by omega)
        rw [validD_step _ (by simp), hd, if_neg (by simp)]
        rfl
      · by_cases c4 : 65536 ≤ r ∧ r ≤ 1114111
        · rw [encodeRuneZ_four c4.1 c4.2]
          simp only [List.map_cons, List.map_nil]
          have e0 := u8 (z := 240 + r / 262144) (by omega) (by omega)
          have e1 := u8 (z := 128 + r / 4096 % 64) (by omega) (by omega)
          have e2 := u8 (z := 128 + r / 64 % 64) (by omega) (by omega)
          have e3 := u8 (z := 128 + r % 64) (by omega) (by omega)
          have hd : decodeL [(240 + r / 262144).toNat.toUInt8, (128 + r / 4096 % 64).toNat.toUInt8, (128 + r / 64 % 64).toNat.toUInt8, (128 + r % 64).toNat.toUInt8] = (((240 + r / 262144).toNat % 8 * 262144 + (128 + r / 4096 % 64).toNat % 64 * 4096 + (128 + r / 64 % 64).toNat % 64 * 64 + (128 + r % 64).toNat % 64), 4) := by
            rw [decodeL_N]
            simp only [List.getD_cons_zero, List.getD_cons_succ, e0, e1, e2, e3]
            exact dN4 (by omega) (by simp) (by omega) (by omega) (by omega) (by omega) (by omega)
          rw [validD_step _ (by simp), hd, if_neg (by simp)]
          rfl
        · rw [encodeRuneZ_bad (by omega)]
          decide +kernel
theorem encode_byte {c : UInt8} (h : c.toNat < 128) : encodeRune (c.toNat : Int) = [c] := by
  unfold encodeRune
  rw [encodeRuneZ_one (by omega) (by omega)]
  simp

/-! ### Words -/
theorem hexN_hexd : ∀ d : Fin 16, hexN (hexd d.1) = some d.1 := by decide +kernel
theorem hexN_hexd' {d : Nat} (h : d < 16) : hexN (hexd d) = some d := hexN_hexd ⟨d, h⟩
theorem hex4_esc {c : UInt8} (h : c.toNat < 32) (r : List UInt8) : hex4 (48 :: 48 :: hexd (c.toNat / 16) :: hexd (c.toNat % 16) :: r) = some (c.toNat, r) := by
  have h0 : hexN 48 = some 0 := by decide
  unfold hex4
  simp only [hexGo, h0, hexN_hexd' (show c.toNat / 16 < 16 by omega), hexN_hexd' (show c.toNat % 16 < 16 by omega)]
  congr 2
  omega
theorem flat_high : ∀ (l : List UInt8), (∀ x ∈ l, 128 ≤ x.toNat) → l.flatMap escB = l
  | [], _ => rfl
  | x :: l, h => by
    have hx := h x (by simp)
    have e : escB x = [x] := by
      unfold escB
      rw [if_neg (by omega), if_neg]
      rintro (rfl | rfl) <;> simp at hx
    rw [List.flatMap_cons, e, flat_high l (fun y hy => h y (by simp [hy]))]
    rfl
theorem wordGo_quote : ∀ (k : Nat) (l acc tail : List UInt8), l.length < k → validD l = true → wordGo k acc (l.flatMap escB ++ 34 :: tail) = .ok (acc ++ l, tail)
  | 0, l, _, _, h, _ => by omega
  | k + 1, [], acc, tail, _, _ => by
    simp [wordGo]
  | k + 1, c :: r, acc, tail, hk, hv => by
    simp only [List.length_cons] at hk
    by_cases hc : c.toNat < 128
    · rw [validD_cons c r hc] at hv
      have ih := fun a => wordGo_quote k r a tail (by omega) hv
      rw [List.flatMap_cons]
      by_cases h32 : c.toNat < 32
      · have e : escB c = [92, 117, 48, 48, hexd (c.toNat / 16), hexd (c.toNat % 16)] := by unfold escB; rw [if_pos h32]
        rw [e]
        have he : escapeL (117 :: 48 :: 48 :: hexd (c.toNat / 16) :: hexd (c.toNat % 16) :: (r.flatMap escB ++ 34 :: tail)) = .ok ([c], r.flatMap escB ++ 34 :: tail) := by
          have hs : simpleL 117 = none := by decide
          simp only [escapeL, hs, hex4_esc h32]
          rw [if_neg (by simp), if_pos (by omega), encode_byte hc]
        simp only [List.cons_append, List.nil_append, wordGo]
        rw [if_neg (by simp), if_neg (by decide), if_pos trivial, he]
        simp only
        rw [ih]
        simp
      · by_cases h34 : c = 34 ∨ c = 92
        · have e : escB c = [92, c] := by unfold escB; rw [if_neg h32, if_pos h34]
          rw [e]
          have he : escapeL (c :: (r.flatMap escB ++ 34 :: tail)) = .ok ([c], r.flatMap escB ++ 34 :: tail) := by
            have hs : simpleL c = some c := by rcases h34 with rfl | rfl <;> decide
            simp only [escapeL, hs]
          simp only [List.cons_append, List.nil_append, wordGo]
          rw [if_neg (by simp), if_neg (by decide), if_pos trivial, he]
          simp only
          rw [ih]
          simp
        · have e : escB c = [c] := by unfold escB; rw [if_neg h32, if_neg h34]
          rw [e]
          simp only [List.cons_append, List.nil_append, wordGo]
          rw [if_neg (by omega), if_neg (fun h => h34 (.inl h)), if_neg (fun h => h34 (.inr h)), decodeL_ascii c _ hc]
          simp only [List.take_succ_cons, List.take_zero, List.drop_succ_cons, List.drop_zero]
          rw [ih]
          simp
    · obtain ⟨hf, hv2⟩ := valid_fine (by simp) hv
      have hle := decodeL_le (c :: r) (by simp)
      have hw := decodeL_width (c :: r)
      have hn1 := (fine_wide (r := r) (show 128 ≤ c.toNat by omega)).1 hf
      have hpre := dec_pre (by simp) hf ((List.drop (decodeL (c :: r)).2 (c :: r)).flatMap escB ++ 34 :: tail)
      have hhigh := fine_high (by simp) hf (by simp; omega)
      generalize hg : (decodeL (c :: r)).2 = n at *
      have e : (c :: r).flatMap escB ++ 34 :: tail = (c :: r).take n ++ (((c :: r).drop n).flatMap escB ++ 34 :: tail) := by
        rw [← List.append_assoc]
        congr 1
        conv => lhs; rw [← List.take_append_drop n (c :: r)]
        rw [List.flatMap_append, flat_high _ hhigh]
      have ih := wordGo_quote k ((c :: r).drop n) (acc ++ (c :: r).take n) tail (by simp only [List.length_drop, List.length_cons]; omega) hv2
      rw [e]
      obtain ⟨m, rfl⟩ : ∃ m, n = m + 1 := ⟨n - 1, by omega⟩
      simp only [List.take_succ_cons, List.cons_append] at hpre ih ⊢
      simp only [List.drop_succ_cons] at hpre ih ⊢
      have hd2 : (decodeL (c :: (List.take m r ++ (List.flatMap escB (List.drop m r) ++ 34 :: tail)))).2 = m + 1 := by rw [hpre]; exact hg
      simp only [List.length_cons] at hle
      have hml : m ≤ r.length := by omega
      have ht : (List.take m r ++ (List.flatMap escB (List.drop m r) ++ 34 :: tail)).take m = r.take m := by
        rw [List.take_append_of_le_length (by rw [List.length_take]; omega), List.take_take, Nat.min_self]
      have hdr : (List.take m r ++ (List.flatMap escB (List.drop m r) ++ 34 :: tail)).drop m = List.flatMap escB (List.drop m r) ++ 34 :: tail := by
        rw [List.drop_append_of_le_length (by rw [List.length_take]; omega), List.drop_of_length_le (by rw [List.length_take]; omega)]
        rfl
      rw [wordGo]
      rw [if_neg (by rw [hd2]; omega), if_neg (by rintro rfl; simp at hc), if_neg (by rintro rfl; simp at hc), hd2]
      simp only [List.take_succ_cons, List.drop_succ_cons, ht, hdr]
      rw [ih]
      simp
theorem wordL_quote {l : List UInt8} (h : validD l = true) (tail : List UInt8) : wordL (l.flatMap escB ++ 34 :: tail) = .ok (l, tail) := by
  have hlen : l.length ≤ (l.flatMap escB).length := by
    clear h
    induction l with
    | nil => simp
    | cons c l ih =>
      have : 1 ≤ (escB c).length := by unfold escB; split; simp; split <;> simp
      rw [List.flatMap_cons, List.length_append, List.length_cons]
      omega
  exact wordGo_quote _ l [] tail (by rw [List.length_append, List.length_cons]; omega) h

theorem takeP_more {p l q : List UInt8} (h : takeP p l = some q) (t : List UInt8) : takeP p (l ++ t) = some (q ++ t) := by
  induction p generalizing l with
  | nil => simp only [takeP, Option.some.injEq] at h ⊢; rw [h]
  | cons a p ih =>
    cases l with
    | nil => simp [takeP] at h
    | cons c l =>
      simp only [takeP, List.cons_append] at h ⊢
      split at h
      · rename_i hac; rw [if_pos hac]; exact ih h
      · cases h
theorem takeP_len {p l q : List UInt8} (h : takeP p l = some q) : q.length + p.length = l.length := by
  induction p generalizing l with
  | nil => simp only [takeP, Option.some.injEq] at h; subst h; simp
  | cons a p ih =>
    cases l with
    | nil => simp [takeP] at h
    | cons c l =>
      simp only [takeP] at h
      split at h
      · have := ih h; simp; omega
      · cases h
theorem hexGo_more : ∀ (k n : Nat) (l q : List UInt8) (m : Nat) (t : List UInt8), hexGo k n l = some (m, q) → hexGo k n (l ++ t) = some (m, q ++ t)
  | 0, n, l, q, m, t, h => by simp only [hexGo, Option.some.injEq, Prod.mk.injEq] at h ⊢; exact ⟨h.1, by rw [h.2]⟩
  | k + 1, n, [], q, m, t, h => by simp [hexGo] at h
  | k + 1, n, c :: l, q, m, t, h => by
    simp only [hexGo, List.cons_append] at h ⊢
    cases hc : hexN c with
    | none => rw [hc] at h; cases h
    | some d => rw [hc] at h; simp only at h ⊢; exact hexGo_more k _ l q m t h
theorem hexGo_len : ∀ (k n : Nat) (l q : List UInt8) (m : Nat), hexGo k n l = some (m, q) → q.length + k = l.length
  | 0, n, l, q, m, h => by simp only [hexGo, Option.some.injEq, Prod.mk.injEq] at h; rw [h.2]; simp
  | k + 1, n, [], q, m, h => by simp [hexGo] at h
  | k + 1, n, c :: l, q, m, h => by
    simp only [hexGo] at h
    cases hc : hexN c with
    | none => rw [hc] at h; cases h
    | some d => rw [hc] at h; simp only at h; have := hexGo_len k _ l q m h; simp; omega
theorem secondL_more {n : Nat} {l x q : List UInt8} (h : secondL n l = .ok (x, q)) : validD x = true ∧ q.length < l.length ∧ ∀ t, secondL n (l ++ t) = .ok (x, q ++ t) := by
  unfold secondL at h
  cases h1 : takeP [92, 117] l with
  | none => rw [h1] at h; cases h
  | some r =>
    rw [h1] at h; simp only at h
    cases h2 : hex4 r with
    | none => rw [h2] at h; cases h
    | some p =>
      obtain ⟨m, u⟩ := p
      rw [h2] at h; simp only at h
      by_cases hm : 56320 ≤ m ∧ m ≤ 57343
      · rw [if_pos hm] at h
        obtain ⟨rfl, rfl⟩ := Prod.mk.inj (Except.ok.inj h)
        have l1 := takeP_len h1
        have l2 := hexGo_len _ _ _ _ _ h2
        refine ⟨valid_encode _, by simp at l1; omega, fun t => ?_⟩
        unfold secondL
        rw [takeP_more h1 t]
        simp only
        rw [show hex4 (r ++ t) = some (m, u ++ t) from hexGo_more _ _ _ _ _ t h2]
        simp only
        rw [if_pos hm]
      · rw [if_neg hm] at h; cases h
theorem simple_small {c x : UInt8} (h : simpleL c = some x) : x.toNat < 128 := by
  unfold simpleL at h
  repeat' split at h
  all_goals first | (cases h; decide) | cases h
theorem escapeL_more {l x q : List UInt8} (h : escapeL l = .ok (x, q)) : validD x = true ∧ q.length < l.length ∧ ∀ t, escapeL (l ++ t) = .ok (x, q ++ t) := by
  cases l with
  | nil => cases h
  | cons c l =>
    simp only [escapeL, List.cons_append] at h ⊢
    cases hs : simpleL c with
    | some y =>
      rw [hs] at h; simp only at h
      cases h
      exact ⟨valid_byte (simple_small hs), by simp, fun t => by simp⟩
    | none =>
      rw [hs] at h; simp only at h ⊢
      by_cases hc : c ≠ 117
      · rw [if_pos hc] at h; cases h
      · rw [if_neg hc] at h
        simp only [if_neg hc]
        cases h2 : hex4 l with
        | none => rw [h2] at h; cases h
        | some p =>
          obtain ⟨m, u⟩ := p
          rw [h2] at h; simp only at h
          have l2 := hexGo_len _ _ _ _ _ h2
          have e2 : ∀ t, hex4 (l ++ t) = some (m, u ++ t) := fun t => hexGo_more _ _ _ _ _ t h2
          by_cases hm : m < 55296 ∨ 57343 < m
          · rw [if_pos hm] at h
            cases h
            refine ⟨valid_encode _, by simp; omega, fun t => ?_⟩
            rw [e2]
            simp only
            rw [if_pos hm]
          · rw [if_neg hm] at h
            by_cases hm2 : 56320 ≤ m
            · rw [if_pos hm2] at h; cases h
            · rw [if_neg hm2] at h
              obtain ⟨a1, a2, a3⟩ := secondL_more h
              refine ⟨a1, by simp; omega, fun t => ?_⟩
              rw [e2]
              simp only
              rw [if_neg hm, if_neg hm2]
              exact a3 t
theorem wordGo_more : ∀ (k : Nat) (acc l w q : List UInt8), wordGo k acc l = .ok (w, q) → validD acc = true → validD w = true ∧ q.length < l.length ∧ ∀ k' t, k ≤ k' → wordGo k' acc (l ++ t) = .ok (w, q ++ t)
  | 0, acc, l, w, q, h, _ => by cases h
  | k + 1, acc, [], w, q, h, _ => by cases h
  | k + 1, acc, c :: r, w, q, h, ha => by
    simp only [wordGo] at h
    by_cases h1 : c.toNat < 32 ∨ (128 ≤ c.toNat ∧ (decodeL (c :: r)).2 = 1)
    · rw [if_pos h1] at h; cases h
    · rw [if_neg h1] at h
      have hf : fineR (c :: r) := by
        by_cases hc : c.toNat < 128
        · exact fine_small hc
        · exact (fine_wide (by omega)).2 (fun e => h1 (.inr ⟨by omega, e⟩))
      have hx : ∀ t, decodeL (c :: (r ++ t)) = decodeL (c :: r) := fun t => dec_app (by simp) hf t
      have h1' : ∀ t, ¬ (c.toNat < 32 ∨ (128 ≤ c.toNat ∧ (decodeL (c :: (r ++ t))).2 = 1)) := fun t => by rw [hx]; exact h1
      by_cases h34 : c = 34
      · rw [if_pos h34] at h
        cases h
        refine ⟨ha, by simp, fun k' t hk => ?_⟩
        obtain ⟨j, rfl⟩ : ∃ j, k' = j + 1 := ⟨k' - 1, by omega⟩
        simp only [wordGo, List.cons_append]
        rw [if_neg (h1' t), if_pos h34]
      · rw [if_neg h34] at h
        by_cases h92 : c = 92
        · rw [if_pos h92] at h
          cases he : escapeL r with
          | error e => rw [he] at h; cases h
          | ok p =>
            obtain ⟨x, u⟩ := p
            rw [he] at h; simp only at h
            obtain ⟨a1, a2, a3⟩ := escapeL_more he
            obtain ⟨b1, b2, b3⟩ := wordGo_more k (acc ++ x) u w q h (valid_app' ha a1)
            refine ⟨b1, by simp; omega, fun k' t hk => ?_⟩
            obtain ⟨j, rfl⟩ : ∃ j, k' = j + 1 := ⟨k' - 1, by omega⟩
            simp only [wordGo, List.cons_append]
            rw [if_neg (h1' t), if_neg h34, if_pos h92, a3 t]
            exact b3 j t (by omega)
        · rw [if_neg h92] at h
          have hle := decodeL_le (c :: r) (by simp)
          have hw := decodeL_width (c :: r)
          obtain ⟨b1, b2, b3⟩ := wordGo_more k _ _ w q h (valid_app' ha (valid_one (by simp) hf))
          refine ⟨b1, by rw [List.length_drop] at b2; omega, fun k' t hk => ?_⟩
          obtain ⟨j, rfl⟩ : ∃ j, k' = j + 1 := ⟨k' - 1, by omega⟩
          have b4 := b3 j t (by omega)
          rw [List.cons_append]
          simp only [wordGo]
          rw [if_neg (h1' t), if_neg h34, if_neg h92, hx, ← b4]
          congr 1
          · congr 1
            rw [← List.cons_append, List.take_append_of_le_length hle]
          · rw [← List.cons_append, List.drop_append_of_le_length hle]
theorem wordL_more {l w q : List UInt8} (h : wordL l = .ok (w, q)) : validD w = true ∧ q.length < l.length ∧ ∀ t, wordL (l ++ t) = .ok (w, q ++ t) := by
  obtain ⟨h1, h2, h3⟩ := wordGo_more _ _ _ _ _ h validD_nil
  exact ⟨h1, h2, fun t => h3 _ t (by simp)⟩
end Go.Proofs.YtamclieppbnpiabGreatDoor
