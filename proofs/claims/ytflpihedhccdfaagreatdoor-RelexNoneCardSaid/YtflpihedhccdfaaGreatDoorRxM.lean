/-
  How many lines, how many were lexed, the text: by the program.
-/
import Derived.Test.YtflpihedhccdfaaGreatDoorProg
import Derived.Test.YtflpihedhccdfaaGreatDoorReg
import Derived.WalkKit
import Derived.WalkSpells
import Derived.WalkLawsBesides
import Derived.Lib.Hide
import Derived.Lib.MinMax
import Derived.Deep.QuietTactic
import Derived.BigQuiet
import Derived.OwnWalk
import Derived.Deep.AppendLies
import Derived.KernelRfl
import Derived.Laws.OwnMore
import Derived.Deep.OwnRows
import Derived.Test.YtflpihedhccdfaaGreatDoorRxN
set_option linter.unusedSimpArgs false
set_option linter.unusedVariables false
namespace Go.Proofs.YtflpihedhccdfaaGreatDoor
open Go.RowKit Go.Maps

theorem textsOf_len (l : List Ln) : (textsOf l).length = l.length := by simp [textsOf]
theorem startL_texts (l : List Ln) : startL l l.length = ((textsOf l).map (fun s => s.size + 1)).sum := by
  unfold startL textsOf
  rw [List.take_length, List.map_map]
  rfl
theorem sum_join : ∀ ps : List ByteArray, ps ≠ [] → (ps.map (fun s => s.size + 1)).sum = (join10 (listsOf ps)).length + 1
  | [], h => absurd rfl h
  | [p], _ => by simp [listsOf, join10, bytes_len]
  | p :: q :: ps, _ => by
    have ih := sum_join (q :: ps) (by simp)
    simp only [listsOf, List.map_cons, join10, List.sum_cons, List.length_append, List.length_cons, bytes_len] at ih ⊢
    omega
theorem pieces_ne (t : ByteArray) : piecesB t ≠ [] := by
  unfold piecesB
  simp [linesL_ne]
theorem startL_size {l : List Ln} {t : ByteArray} (h : textsOf l = piecesB t) : startL l l.length = t.size + 1 := by
  rw [startL_texts, h, sum_join _ (pieces_ne t), join_pieces, bytes_len]
theorem joinT_is {l : List Ln} {t : ByteArray} (h : textsOf l = piecesB t) : joinT l = t := by
  unfold joinT
  rw [h, join_pieces]
  exact toB_of t

set_option maxRecDepth 100000 in
set_option maxHeartbeats 4000000 in
theorem Lines_any (X : Nat) (t : ByteArray) (q : Int) (w : World) (h : IsLex w X t q) (ht : t.size ≤ 4000) :
    Calls Tryz.prog 15 #[.pointer (some ⟨X, 0, none⟩)] w fun e w' => e = .returned (.int .i64 (piecesB t).length) ∧ w' = w := by
  obtain ⟨base, v, ls, h1, h2, h3, h4⟩ := h
  obtain ⟨A, c, rfl⟩ := owns_slice h2
  have hlen := textsOf_len ls
  rw [h3] at hlen
  have c0 : w.cell? ⟨X, 0, none⟩ = some (.slice A ls.length c) := by simp [World.cell?, h1]
  rw [hlen]
  clear h1 h2 h3 h4 hlen
  go_enter Tryz.func15, Tryz.ntmps15
  go_wp2_with fail
  go_ret
  exact ⟨rfl, rfl⟩

set_option maxRecDepth 100000 in
set_option maxHeartbeats 4000000 in
theorem Lexed_any (X : Nat) (t : ByteArray) (q : Int) (w : World) (h : IsLex w X t q) (hq : 0 ≤ q ∧ q ≤ 2000000000) :
    Calls Tryz.prog 14 #[.pointer (some ⟨X, 0, none⟩)] w fun e w' => e = .returned (.int .i64 q) ∧ w' = w := by
  obtain ⟨base, v, ls, h1, h2, h3, h4⟩ := h
  have c1 : w.cell? ⟨X, 1, none⟩ = some (.int .i64 q) := by simp [World.cell?, h1]
  have HL := Lib.hid (Load_any X 1 q w c1)
  clear h1 h2 h3 h4
  go_enter Tryz.func14, Tryz.ntmps14
  go_wp2_with fail
  refine HL.out.mono ?_
  rintro e w2 ⟨rfl, rfl⟩
  go_wp2_with fail
  go_ret
  exact ⟨rfl, rfl⟩

set_option maxRecDepth 100000 in
set_option maxHeartbeats 4000000 in
theorem Text_lex (X : Nat) (t : ByteArray) (q : Int) (w : World) (h : IsLex w X t q) (ht : t.size ≤ 4000) :
    Calls Tryz.prog 13 #[.pointer (some ⟨X, 0, none⟩)] w fun e w' => e = .returned (.string t) ∧ Below w.heap.size w w' := by
  obtain ⟨base, v, ls, h1, h2, h3, h4⟩ := h
  obtain ⟨A, c, rfl, -, hH, -⟩ := holdsL_of_own h2
  have c0 : w.cell? ⟨X, 0, none⟩ = some (.slice A ls.length c) := by simp [World.cell?, h1]
  have hst := startL_size h3
  have hll : ls.length = (piecesB t).length := by rw [← h3, textsOf_len]
  have hpl := pieces_le t
  have HW := whole_any X A c ls w (by omega) (by omega) c0 hH
  rw [joinT_is h3] at HW
  have HW := Lib.hid HW
  clear h1 h2 h3 h4 hH c0
  go_enter Tryz.func13, Tryz.ntmps13
  go_wp2_with fail
  refine HW.out.mono ?_
  rintro e w2 ⟨rfl, hb2⟩
  go_wp2_with fail
  go_ret
  exact ⟨rfl, hb2⟩

set_option maxRecDepth 100000 in
theorem Lines_nil (w : World) : Calls Tryz.prog 15 #[.pointer none] w fun e w' => e = .returned (.int .i64 0) ∧ w' = w := by
  go_enter Tryz.func15, Tryz.ntmps15
  go_wp2_with fail
  go_ret
  exact ⟨rfl, rfl⟩
set_option maxRecDepth 100000 in
theorem Lexed_nil (w : World) : Calls Tryz.prog 14 #[.pointer none] w fun e w' => e = .returned (.int .i64 0) ∧ w' = w := by
  go_enter Tryz.func14, Tryz.ntmps14
  go_wp2_with fail
  go_ret
  exact ⟨rfl, rfl⟩
set_option maxRecDepth 100000 in
theorem Text_nil (w : World) : Calls Tryz.prog 13 #[.pointer none] w fun e w' => e = .returned (.string ⟨#[]⟩) ∧ w' = w := by
  go_enter Tryz.func13, Tryz.ntmps13
  go_wp2_with fail
  go_ret
  exact ⟨rfl, rfl⟩
set_option maxRecDepth 100000 in
theorem Tokens_nil (w : World) : Calls Tryz.prog 23 #[.pointer none] w fun e w' => e = .returned (.slice none 0 0) ∧ w' = w := by
  go_enter Tryz.func23, Tryz.ntmps23
  go_wp2_with fail
  go_ret
  exact ⟨rfl, rfl⟩
set_option maxRecDepth 100000 in
theorem Line_nil (i : Int) (w : World) : Calls Tryz.prog 17 #[.pointer none, .int .i64 i] w fun e w' => e = .returned (.slice none 0 0) ∧ w' = w := by
  go_enter Tryz.func17, Tryz.ntmps17
  go_wp2_with fail
  go_ret
  exact ⟨rfl, rfl⟩
end Go.Proofs.YtflpihedhccdfaaGreatDoor
