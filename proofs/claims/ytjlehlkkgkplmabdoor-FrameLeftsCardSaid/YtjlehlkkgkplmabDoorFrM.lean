/-
  A body's frame: by the program.
-/
import Derived.Test.YtjlehlkkgkplmabDoorProg
import Derived.Test.YtjlehlkkgkplmabDoorReg
import Derived.WalkKit
import Derived.WalkSpells
import Derived.WalkLawsBesides
import Derived.Lib.Hide
import Derived.Lib.MinMax
import Derived.Deep.QuietTactic
import Derived.BigQuiet
import Derived.OwnWalk
import Derived.Deep.AppendLies
import Derived.KernelRfl
import Derived.Laws.MakeOwn
import Derived.Test.YtjlehlkkgkplmabDoorFrC
set_option linter.unusedSimpArgs false
set_option linter.unusedVariables false
namespace Go.Proofs.YtjlehlkkgkplmabDoor
open Go Go.RowKit

theorem infoByte : (Tryd.prog.info? 5).map (fun i => (i.zero, i.size, i.bytes)) = some (some (.int .u8 0), 1, 1) := by kernel_rfl
theorem sizeByte : (Tryd.prog.info? 5).map (·.size) = some 1 := by kernel_rfl
theorem run_string_of_cells {P : Program} {w : World} (src dst e : TypeId) {g : Nat} {t : TypeId} {fr : Nat × Nat} {l : List UInt8} {c : Nat} (hs : P.underlying src = some (.slice e)) (he : P.underlying e = some (.int .u8)) (hd : P.underlying dst = some .string)
    (h : w.heap[g]? = some (.cells (bv l).toArray t fr)) : (convert src dst (.slice (some ⟨g, 0, none⟩) l.length c)).run P w = .ok (.string ⟨l.toArray⟩) w := by
  rw [run_convert_bytes_string w src dst e _ _ _ hs he hd]
  have hc : ∀ j u, (bv l)[j]? = some u → w.cell? ((⟨g, 0, none⟩ : Addr).add j) = some u := World.news_of_block h
  have hld := run_loadCells_list (P := P) w ⟨g, 0, none⟩ (bv l) hc
  rw [bv_length] at hld
  have e1 : bv l = (l.map fun b => (b.toNat : Int)).map (Value.int .u8) := by simp [bv]
  rw [e1] at hld
  rw [run_bytesToString w _ _ _ _ hld, push_fold]
  simp
/-- What 'Put' tells. -/
def putB (b : ByteArray) : ByteArray × Int := if 9000 < b.size then (⟨#[]⟩, 160) else (⟨(putL b.data.toList).toArray⟩, 0)

set_option maxRecDepth 100000 in
set_option maxHeartbeats 8000000 in
theorem Put_any (b : ByteArray) (a : Addr) (w : World) (hb : b.size ≤ 1000000) (hL : LaidF a w) :
    Calls Tryd.prog 9 #[.string b] w fun e w' => e = .returned (.tuple #[.string (putB b).1, .int .i64 (putB b).2]) ∧ Below w.heap.size w w' := by
  by_cases hbig : 9000 < b.size
  · have q : (9000 : Int) < (b.size : Int) := by omega
    have HP : Hid (putB b = (⟨#[]⟩, 160)) := Lib.hid (if_pos hbig)
    have HT := Lib.hid (told_frame a w hL.err)
    have herr := hL.err
    unfold ErrF at herr
    clear hbig
    go_enter Tryd.func9, Tryd.ntmps9
    go_wp2_with fail
    refine HT.out.mono ?_
    rintro e w1 ⟨rfl, rfl⟩
    go_wp2_with fail
    go_ret2
    rw [HP.out]
    exact ⟨rfl, Below.refl _ _⟩
  · have q : ¬ (9000 : Int) < (b.size : Int) := by omega
    obtain ⟨I, hI⟩ : ∃ I : ByteArray, I = ⟨(Lib.itoa (b.size : Int)).toArray⟩ := ⟨_, rfl⟩
    have hIt := Itoa_any (b.size : Int) a w (by omega) (by omega) hL
    rw [← hI] at hIt
    have hz : b.data.toList.length = b.size := rfl
    have hId : I.data.toList = digs b.size := by rw [hI, itoa_digs]
    have hIz : I.size ≤ 4 := by
      have := numOK_len (n := b.size) (by omega)
      rw [← hId] at this
      exact this.2
    obtain ⟨H, hH⟩ : ∃ H : ByteArray, H = ((⟨#[67, 111, 110, 116, 101, 110, 116, 45, 76, 101, 110, 103, 116, 104, 58, 32]⟩ : ByteArray) ++ I ++ (⟨#[13, 10]⟩ : ByteArray)) ++ (⟨#[13, 10]⟩ : ByteArray) := ⟨_, rfl⟩
    have hHd : H.data.toList = headOf b.size ++ [13, 10, 13, 10] := by
      rw [hH]
      simp only [ByteArray.data_append, Array.toList_append, hId]
      unfold headOf lengthName
      simp
    have hHz : H.size ≤ 100 := by
      have := congrArg List.length hHd
      have h2 := head_len (n := b.size) (by omega)
      rw [List.length_append] at this
      have h3 : H.size = H.data.toList.length := rfl
      simp at this
      omega
    have HP : Hid (putB b = (⟨(H.data.toList ++ b.data.toList).toArray⟩, 0)) := Lib.hid (by
      unfold putB
      rw [if_neg hbig, hHd]
      unfold putL
      rw [hz, List.append_assoc])
    have HI := Lib.hid hIt
    have HH := Lib.hid hH
    clear hIt hI hId hbig hH hHd
    go_enter Tryd.func9, Tryd.ntmps9
    go_wp2_with fail
    refine HI.out.mono ?_
    rintro e w1 ⟨rfl, hb1⟩
    have HB1 := Lib.hid hb1
    clear hb1 HI
    go_upto_region 4 with fail
    rw [← HH.out]
    obtain ⟨i0, hi0, hz0, hz2, hz3⟩ := info_parts infoByte
    have n1 : (0 : Int) ≤ (H.size : Int) := by omega
    have n2 : (0 : Int) ≤ (b.size : Int) := by omega
    have hmk : ∀ W' : World, (Instr.makeSlice 45 (.int .i64 ((H.size : Int) + (b.size : Int))) (.int .i64 ((H.size : Int) + (b.size : Int)))).run Tryd.prog W' = .ok (.slice (some ⟨W'.heap.size, 0, none⟩) (H.size + b.size) (H.size + b.size)) (W'.alloc (.cells (List.replicate (H.size + b.size) (Value.int .u8 0)).toArray 5)) := fun W' => by
      have h := run_make (P := Tryd.prog) W' 45 5 i0 _ Tryd.underlying45 hi0 hz0 .i64 .i64 ((H.size : Int) + (b.size : Int)) ((H.size : Int) + (b.size : Int)) (by omega) (by omega) (by rw [hz3]; omega) (by omega)
      rw [h, hz2]
      have e : ((H.size : Int) + (b.size : Int)).toNat = H.size + b.size := by omega
      rw [e, Nat.mul_one]
      congr 3
      apply Array.toList_inj.1
      exact toList_madeCells_one (Value.int .u8 0) _
    generalize hN : List.replicate (H.size + b.size) (Value.int .u8 0) = zeros at hmk
    have hzl : zeros.length = H.size + b.size := by rw [← hN]; simp
    have Hzl := Lib.hid hzl
    clear hN hzl
    obtain ⟨dp, hdp, hsl⟩ := run_cut_row (P := Tryd.prog) 45 5 w1.heap.size H.size b.size Tryd.underlying45 sizeByte
    go_upto_region 5 with fail
    obtain ⟨Wm, hWm⟩ : ∃ Wm, w1.alloc (.cells zeros.toArray 5) = Wm := ⟨_, rfl⟩
    have hp : Wm.heap[w1.heap.size]? = some (.cells zeros.toArray 5 (0, 0)) := by rw [← hWm]; exact heap_alloc_new w1 _
    have HBm := Lib.hid (show Below w1.heap.size w1 Wm by rw [← hWm]; exact below_new _ _)
    have hsz := HBm.out.size
    rw [hWm]
    clear hWm hmk
    have hzl := Hzl.out
    have hbl : b.data.toList.length = b.size := rfl
    have hHl : H.data.toList.length = H.size := rfl
    have hcp1 := run_copy_str (P := Tryd.prog) Wm 45 9 3 5 (some ⟨w1.heap.size, 0, none⟩) w1.heap.size 0 (H.size + b.size) (H.size + b.size) H zeros 5 Tryd.underlying45 sizeByte hp (by omega) (fun _ => rfl) (by omega)
    obtain ⟨W2, hW2⟩ : ∃ W2, Wm.setRow w1.heap.size (splice zeros 0 (bv H.data.toList)).toArray = W2 := ⟨_, rfl⟩
    have hp2 : W2.heap[w1.heap.size]? = some (.cells (splice zeros 0 (bv H.data.toList)).toArray 5 (0, 0)) := by rw [← hW2]; exact setRow_heap _ _ _ _ _ _ hp
    have g2 : Wm.grownBy W2 (some w1.heap.size) := by rw [← hW2]; exact grownBy_setRow _ _ _
    have hl2' : (splice zeros 0 (bv H.data.toList)).length = H.size + b.size := by rw [length_splice _ _ _ (by rw [bv_length]; omega)]; exact hzl
    have hcp2 := run_copy_str (P := Tryd.prog) W2 45 9 3 5 dp w1.heap.size H.size b.size b.size b (splice zeros 0 (bv H.data.toList)) 5 Tryd.underlying45 sizeByte hp2 (by omega) hdp (by omega)
    rw [splice_two H.size b.size _ _ zeros (by rw [bv_length]; rfl) (by rw [bv_length]; rfl) hzl, ← bv_append] at hcp2
    rw [hW2] at hcp1
    obtain ⟨W3, hW3⟩ : ∃ W3, W2.setRow w1.heap.size (bv (H.data.toList ++ b.data.toList)).toArray = W3 := ⟨_, rfl⟩
    have hp3 : W3.heap[w1.heap.size]? = some (.cells (bv (H.data.toList ++ b.data.toList)).toArray 5 (0, 0)) := by rw [← hW3]; exact setRow_heap _ _ _ _ _ _ hp2
    have g3 : W2.grownBy W3 (some w1.heap.size) := by rw [← hW3]; exact grownBy_setRow _ _ _
    rw [hW3] at hcp2
    have hst := run_string_of_cells (P := Tryd.prog) (c := H.size + b.size) 45 9 5 Tryd.underlying45 Tryd.underlying5 Tryd.underlying9 hp3
    have hlen : (H.data.toList ++ b.data.toList).length = H.size + b.size := by rw [List.length_append]; rfl
    rw [hlen] at hst
    have HB3 := Lib.hid (((HB1.out.trans (HBm.out.mono HB1.out.size)).grown g2 (by have := HB1.out.size; omega) (fun k e => by cases e; exact HB1.out.size)).grown g3 (by have := HB1.out.size; have := g2.size; omega) (fun k e => by cases e; exact HB1.out.size))
    clear hW2 hW3 hl2' hzl hp hp2 hp3 hlen g2 g3 hbl hHl
    go_wp2_with fail
    go_ret2
    rw [HP.out]
    exact ⟨rfl, HB3.out⟩
end Go.Proofs.YtjlehlkkgkplmabDoor
