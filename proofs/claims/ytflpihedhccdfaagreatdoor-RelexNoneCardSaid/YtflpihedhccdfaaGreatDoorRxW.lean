/-
  A splice that is right: by the program.
-/
import Derived.Test.YtflpihedhccdfaaGreatDoorProg
import Derived.Test.YtflpihedhccdfaaGreatDoorReg
import Derived.WalkKit
import Derived.WalkSpells
import Derived.WalkLawsBesides
import Derived.Lib.Hide
import Derived.Lib.MinMax
import Derived.Deep.QuietTactic
import Derived.BigQuiet
import Derived.OwnWalk
import Derived.Deep.AppendLies
import Derived.KernelRfl
import Derived.Laws.OwnMore
import Derived.Deep.OwnRows
import Derived.Deep.RegionWith
import Derived.Test.YtflpihedhccdfaaGreatDoorRxU
import Derived.Test.YtflpihedhccdfaaGreatDoorRxV
import Derived.Test.YtflpihedhccdfaaGreatDoorRxH
set_option linter.unusedSimpArgs false
set_option linter.unusedVariables false
namespace Go.Proofs.YtflpihedhccdfaaGreatDoor
open Go Go.RowKit

/-- What a splice does, in the lexer's own lines. -/
structure SpliceAt (t s : ByteArray) (p n : Nat) (ls : List Ln) (f d fb gb : Nat) (x z : Ln) (M : ByteArray) : Prop where
  fnd : foundL t.data.toList p = (f, fb)
  fnd2 : foundL t.data.toList (p + n) = (f + d, gb)
  lx : ls[f]? = some x
  lz : ls[f + d]? = some z
  b1 : fb ≤ p
  b2 : p ≤ fb + x.text.size
  b3 : gb ≤ p + n
  b4 : p + n ≤ gb + z.text.size
  mid : M = x.text.extract 0 (p - fb) ++ s ++ z.text.extract (p + n - gb) z.text.size
  put : piecesB (putS t p n s) = textsOf (ls.take f) ++ piecesB M ++ textsOf (ls.drop (f + d + 1))
  new : (piecesB M).length = (piecesB s).length
  chg : chgS t p n s = ⟨f, d + 1, (piecesB s).length⟩
  size : M.size ≤ t.size + s.size

theorem splice_at {t s : ByteArray} {p n : Nat} {ls : List Ln} (h : p + n ≤ t.size) (hls : textsOf ls = piecesB t) :
    ∃ f d fb gb x z M, SpliceAt t s p n ls f d fb gb x z M := by
  obtain ⟨xs, zs, ws, ys, y, z, b, e, h1, hb, h2, he, h3, h4, h5⟩ := splice_parts (s := s) h
  obtain ⟨d, hd⟩ : ∃ d, (foundL t.data.toList (p + n)).1 = (foundL t.data.toList p).1 + d := ⟨_, (Nat.add_sub_cancel' h3).symm⟩
  have k1 := inline_get h1
  have k2 := inline_get h2
  have hmap : linesL t.data.toList = ls.map (fun x => x.text.data.toList) := by
    rw [← lists_pieces, ← hls]
    unfold listsOf textsOf
    rw [List.map_map]
    rfl
  have get : ∀ (i : Nat) (u : List UInt8), (linesL t.data.toList)[i]? = some u → ∃ x, ls[i]? = some x ∧ x.text.data.toList = u := by
    intro i u hu
    rw [hmap, List.getElem?_map] at hu
    cases hl : ls[i]? with
    | none => rw [hl] at hu; cases hu
    | some x => rw [hl] at hu; exact ⟨x, rfl, Option.some.inj hu⟩
  obtain ⟨x, gx, ex⟩ := get _ _ k1.1
  obtain ⟨zz, gz, ez⟩ := get _ _ k2.1
  obtain ⟨M, hM⟩ : ∃ M, M = x.text.extract 0 (p - b) ++ s ++ zz.text.extract (p + n - e) zz.text.size := ⟨_, rfl⟩
  have hMl : M.data.toList = y.take (p - b) ++ s.data.toList ++ z.drop (p + n - e) := by
    rw [hM, bytes_app, bytes_app, bytes_ext, bytes_ext, ex, ez, List.drop_zero, Nat.sub_zero]
    congr 1
    rw [List.take_of_length_le]
    rw [List.length_drop, ← ez, bytes_len]
    exact Nat.le_refl _
  have hp : linesL M.data.toList = linesL (y.take (p - b) ++ s.data.toList ++ z.drop (p + n - e)) := by rw [hMl]
  have hlen1 : y.length = x.text.size := by rw [← ex, bytes_len]
  have hlen2 : z.length = zz.text.size := by rw [← ez, bytes_len]
  have t1 : ∀ k, textsOf (ls.take k) = ((linesL t.data.toList).take k).map toB := by
    intro k
    rw [hmap, ← List.map_take, List.map_map]
    unfold textsOf
    exact List.map_congr_left (fun a _ => (toB_of a.text).symm)
  have t2 : ∀ k, textsOf (ls.drop k) = ((linesL t.data.toList).drop k).map toB := by
    intro k
    rw [hmap, ← List.map_drop, List.map_map]
    unfold textsOf
    exact List.map_congr_left (fun a _ => (toB_of a.text).symm)
  refine ⟨(foundL t.data.toList p).1, d, b, e, x, zz, M, by rw [hb], by rw [← hd, he], gx, by rw [← hd]; exact gz, h1.le, by rw [← hlen1]; exact h1.ge, h2.le, by rw [← hlen2]; exact h2.ge, hM, ?_, ?_, ?_, ?_⟩
  · rw [t1, t2, ← hd, k1.2.1, k2.2.2.1]
    unfold piecesB
    rw [h4, hp, List.map_append, List.map_append]
  · unfold piecesB
    rw [List.length_map, hp, h5]
    unfold piecesB
    rw [List.length_map]
  · unfold chgS
    rw [hd]
    congr 1
    omega
  · have e1 := congrArg List.length hMl
    rw [bytes_len] at e1
    simp only [List.length_append, List.length_take, List.length_drop, bytes_len] at e1
    have e2 := congrArg List.length (in_take h2).2
    simp only [List.length_append, List.length_drop, bytes_len] at e2
    omega
end Go.Proofs.YtflpihedhccdfaaGreatDoor
