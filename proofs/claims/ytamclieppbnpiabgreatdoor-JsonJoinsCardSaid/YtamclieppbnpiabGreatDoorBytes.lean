/-
  Cells of bytes: copied out of a text, made into a text. No program here.
-/
import Derived.WalkKit
import Derived.Laws.CopyOwn
import Derived.Laws.CopyRow
import Derived.Laws.MakeOwn
import Derived.Laws.BytesString
import Derived.Deep.AppendLies
set_option linter.unusedSimpArgs false
set_option linter.unusedVariables false
namespace Go.Proofs.YtamclieppbnpiabGreatDoor
open Go Go.RowKit

/-- A list of bytes, as cells. -/
def bv (l : List UInt8) : List Value := l.map fun b => .int .u8 b.toNat

theorem bv_length (l : List UInt8) : (bv l).length = l.length := by simp [bv]
theorem bv_append (l m : List UInt8) : bv (l ++ m) = bv l ++ bv m := by simp [bv]
theorem bv_one (l : List UInt8) : ∀ v ∈ bv l, v.oneCell' = true := by
  intro v hv
  simp only [bv, List.mem_map] at hv
  obtain ⟨b, _, rfl⟩ := hv
  rfl

theorem run_copy_str {P : Program} (w : World) (dT sT ty elem : TypeId) (dp : Option Addr) (g o dLen dCap : Nat) (s : ByteArray) (cur : List Value) (t : TypeId)
    (hu : P.underlying dT = some (.slice elem)) (hs : (P.info? elem).map (·.size) = some 1) (hg : w.heap[g]? = some (.cells cur.toArray t (0, 0)))
    (hle : s.size ≤ dLen) (hpos : 0 < s.size → dp = some ⟨g, o, none⟩) (hfit : o + s.size ≤ cur.length) :
    (Builtin.copy_ #[dT, sT] ty #[.slice dp dLen dCap, .string s]).run P w = .ok (.int .i64 s.size) (w.setRow g (splice cur o (bv s.data.toList)).toArray) := by
  have hmin : Nat.min s.size dLen = s.size := Nat.min_eq_left hle
  have hext : s.extract 0 s.size = s := by simp
  cases hq : P.info? elem with
  | none => simp [hq] at hs
  | some i =>
    have hi : i.size = 1 := by simpa [hq] using hs
    by_cases h0 : 0 < s.size
    · obtain rfl := hpos h0
      have hst := run_storeCells_at P g o t (bv s.data.toList) 0 cur.toArray w hg (by simpa [bv_length] using hfit) (bv_one _)
      have ec : List.take s.size (List.map (fun b => Value.int IntKind.u8 ↑b.toNat) s.data.toList) = bv s.data.toList := by
        rw [List.take_of_length_le (by rw [List.length_map]; exact Nat.le_refl _)]; rfl
      simp [Builtin.copy_, run_underlying hu, Builtin.lenOf, Builtin.firstCells, sizeOf, typeInfo, hq, hmin, goInt]
      rw [ec, hst]
      simp [splice, bv_length]
    · have hz : s.size = 0 := by omega
      have he : s = ByteArray.empty := ByteArray.size_eq_zero_iff.1 hz
      subst he
      have e1 : splice cur o (bv (ByteArray.empty).data.toList) = cur := by simp [splice, bv]
      rw [e1, setRow_self w g cur.toArray t (0, 0) hg]
      cases dp <;> simp [Builtin.copy_, run_underlying hu, Builtin.lenOf, Builtin.firstCells, sizeOf, typeInfo, hq, storeCells, goInt]

theorem push_fold (ns : List UInt8) : ∀ s : ByteArray, (ns.map fun b => (b.toNat : Int)).foldl (fun r n => r.push (UInt8.ofNat n.toNat)) s = ⟨(s.data.toList ++ ns).toArray⟩ := by
  induction ns with
  | nil => intro s; simp
  | cons b ns ih =>
    intro s
    simp only [List.map_cons, List.foldl_cons]
    rw [ih]
    simp [ByteArray.push]

theorem run_string_of_row {P : Program} {w : World} (src dst e : TypeId) {base ty : Nat} {v : Value} {n : Nat} {l : List UInt8} (hs : P.underlying src = some (.slice e)) (he : P.underlying e = some (.int .u8)) (hd : P.underlying dst = some .string)
    (h : w.ownsRow base ty 1 v n (bv l)) : (convert src dst v).run P w = .ok (.string ⟨l.toArray⟩) w := by
  rcases h.2 with ⟨rfl, hn⟩ | ⟨g, cap, cur, rfl, _⟩
  · have hl : l = [] := by
      have := h.1
      rw [bv_length, hn] at this
      exact List.eq_nil_of_length_eq_zero (by omega)
    subst hl
    rw [run_convert_bytes_string w src dst e none 0 0 hs he hd]
    simp [Conv.bytesToString]
    rfl
  · rw [run_convert_bytes_string w src dst e _ _ _ hs he hd]
    have hlen : l.length = n := by have := h.1; rw [bv_length] at this; omega
    have hc := h.cells (g := g) rfl
    have hld := run_loadCells_list (P := P) w ⟨g, 0, none⟩ (bv l) hc
    rw [bv_length, hlen] at hld
    have e1 : bv l = (l.map fun b => (b.toNat : Int)).map (Value.int .u8) := by simp [bv]
    rw [e1] at hld
    rw [run_bytesToString w _ _ _ _ hld, push_fold]
    simp

theorem grownBy_setRow (w : World) (g : Nat) (cs : Array Value) : w.grownBy (w.setRow g cs) (some g) :=
  ⟨rfl, rfl, rfl, by simp [World.setRow], fun k _ hk => setRow_other w g k cs (fun e => hk (by rw [e]))⟩

/-- part[k:], part k + m long: it lies k behind, or nobody asks where. -/
theorem run_cut_row {P : Program} (t e : TypeId) (p k m : Nat) (ht : P.underlying t = some (.slice e)) (he : (P.info? e).map (·.size) = some 1) :
    ∃ dp : Option Addr, (0 < m → dp = some ⟨p, k, none⟩) ∧ ∀ W, (Instr.sliceAt t (.slice (some ⟨p, 0, none⟩) (k + m) (k + m)) (some (.int .i64 (k : Int))) none none).run P W = .ok (.slice dp m m) W := by
  have ht' : P.underlying t = some (.slice (P.elem t)) := by simp [Program.elem, ht]
  have hee : P.elem t = e := by simp [Program.elem, ht]
  refine ⟨if k + m = k then some ⟨p, 0, none⟩ else some ⟨p, k, none⟩, fun h => if_neg (by omega), fun W => ?_⟩
  rw [run_sliceAt_slice W t _ _ _ _ ht', run_slice_l W t _ _ _ ht' .i64 (k : Int) (by omega) (by omega), hee]
  cases hq : P.info? e with
  | none => simp [hq] at he
  | some i =>
    have hi : i.size = 1 := by simpa [hq] using he
    simp only [sizeOf, typeInfo, Int.toNat_natCast]
    have e2 : k + m - k = m := by omega
    by_cases h0 : k + m = k
    · simp [hq, hi, sliced, h0, Result.andThen]
      omega
    · simp [hq, hi, sliced, e2, Result.andThen, Addr.add]
      split <;> simp_all

theorem splice_two (k m : Nat) (a b z : List Value) (ha : a.length = k) (hb : b.length = m) (hz : z.length = k + m) : splice (splice z 0 a) k b = a ++ b := by
  simp only [splice, List.take_zero, List.nil_append, Nat.zero_add, ha]
  rw [List.take_append_of_le_length (by omega), List.take_of_length_le (by omega), List.drop_of_length_le (by simp; omega)]
  simp

theorem owns_slice {w : World} {base : Nat} {e : TypeId} {size : Nat} {v : Value} {n : Nat} {xs : List Value} (h : w.ownsRow base e size v n xs) : ∃ A c, v = .slice A n c := by
  rcases h.2 with ⟨rfl, rfl⟩ | ⟨g, cap, cur, rfl, _⟩
  · exact ⟨none, 0, rfl⟩
  · exact ⟨_, _, rfl⟩

end Go.Proofs.YtamclieppbnpiabGreatDoor
