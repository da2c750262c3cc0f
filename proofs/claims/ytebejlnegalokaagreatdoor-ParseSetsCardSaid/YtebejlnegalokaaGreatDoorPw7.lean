/-
  Functions' trees: by the program.
-/
import Derived.Test.YtebejlnegalokaaGreatDoorProg
import Derived.Test.YtebejlnegalokaaGreatDoorReg
import Derived.WalkKit
import Derived.WalkSpells
import Derived.WalkLawsBesides
import Derived.Lib.Hide
import Derived.Lib.MinMax
import Derived.Deep.QuietTactic
import Derived.BigQuiet
import Derived.OwnWalk
import Derived.Deep.AppendLies
import Derived.KernelRfl
import Derived.Test.YtebejlnegalokaaGreatDoorPw6
set_option linter.unusedSimpArgs false
set_option linter.unusedVariables false
namespace Go.Proofs.YtebejlnegalokaaGreatDoor
open Go Go.RowKit Go.Maps
open Gz (Tok HoldsT HoldsTT splitRes gPar gCur)
open Nz (Nd rightN joinN HoldsN IntN HoldsTs errNodeAt)

set_option maxRecDepth 100000 in
set_option maxHeartbeats 8000000 in
theorem base_p (a b : Addr) (p : Pz) (pb : Nat) (A : Option Addr) (c' : Nat) (env : List Bd) (inner : Bool) (TA : Option Addr) (c : Nat) (l : List Tok) (w : World)
    (HS : KOk a b (l.length - 2) 41 p.stmt) (HFn : KOk a b (l.length - 2) 33 p.fn)
    (hl : OkL l) (h1 : 1 ≤ l.length) (hn : env.length + 100 * l.length ≤ 50000) (hc : l.length ≤ c) (hh : HoldsT w TA l) (hp : Par w pb A c' env inner) (hw : WOk a b w) :
    Calls Tryz.prog 57 #[.pointer (some ⟨pb, 0, none⟩), .slice TA l.length c] w (GivesP (baseP p env inner l) b · w ·) := by
  have hlen := hl.len
  have gx := List.getElem?_eq_getElem (l := l) (i := 0) (by omega)
  obtain ⟨b0, off, rfl, c0, c1, c2⟩ := hh 0 _ gx
  simp only [Nat.zero_mul, Nat.add_zero] at c0 c1 c2
  have hsx := hl.small _ (List.getElem_mem (show 0 < l.length by omega))
  have HI := Lib.hid (fun g W (h : HoldsT W (some ⟨b0, off, none⟩) l) (v : Gz.Listed W) => isGroup_any (some ⟨b0, off, none⟩) c l g W hl hc h v)
  obtain ⟨R, hR⟩ : ∃ R, R = baseP p env inner l := ⟨_, rfl⟩
  rw [← hR]
  have hR2 : R = (if isGrp l gCur then bodyP p env (innerL l)
    else if isGrp l gPar then (match p.fn env inner (innerL l) with | .error e => .error e | .ok t => joinP 5 noB [t])
    else (if (l[0]).kind = 6 then joinP 9 (l[0]).glyph [] else joinP 14 (l[0]).text [])) := by
    rw [hR]
    cases l with
    | nil => simp at h1
    | cons x l => rfl
  have hil := innerL_len l
  have HIn := Lib.hid (fun (h2 : 2 ≤ l.length) W (h : HoldsT W (some ⟨b0, off, none⟩) l) => inside_any (some ⟨b0, off, none⟩) c l W hl h2 hc h)
  have HBd := Lib.hid (fun (h2 : 2 ≤ l.length) B W (h : HoldsT W B (innerL l)) (q : Par W pb A c' env inner) (v : WOk a b W) => body_p a b p pb A c' env inner B (innerL l).length (innerL l) W (HS.mono (by omega)) hl.inner (by omega) (by omega) (Nat.le_refl _) h q v)
  have HF := Lib.hid (fun (h2 : 2 ≤ l.length) B W (h : HoldsT W B (innerL l)) (q : Par W pb A c' env inner) (v : WOk a b W) => HFn pb A c' env inner (innerL l) B (innerL l).length W (by omega) (by omega) hl.inner (Nat.le_refl _) h q v)
  have HJ := Lib.hid (fun (k : Int) (t : ByteArray) (W : World) (h1 : (Lit.int .i64 k).wf = true) (h2 : t.size ≤ 1000000) (h : WOk a b W) => join_p k t [] none 0 a b W h1 h2 (by simp) (fun k x hk => by simp at hk) (fun t ht => by simp at ht) h)
  have HG2 := Lib.hid (fun g => isGrp_len (l := l) (g := g))
  have HR := Lib.hid hR2
  have HH := Lib.hid hh
  have HP := Lib.hid hp
  have HW := Lib.hid hw
  have k0 : (0 : Int) < (l.length : Int) := by omega
  clear hR hR2 gx hh hp hw hl hil HS HFn
  generalize l[0] = x at *
  generalize p.fn env inner (innerL l) = rf at *
  generalize bodyP p env (innerL l) = rb at *
  generalize (innerL l).length = m at *
  generalize innerL l = il at *
  simp only [List.length_nil] at HJ
  go_enter Tryz.func57, Tryz.ntmps57
  go_wp2_with fail
  refine (HI.out _ w HH.out HW.out.listed).mono ?_
  rintro e w1 ⟨rfl, hb⟩
  have HB1 := Lib.hid hb
  have HH1 := Lib.hid (HH.out.below hb)
  have HP1 := Lib.hid (HP.out.below hb)
  have HW1 := Lib.hid (HW.out.below hb)
  have d0 := (hb.cell (p := ⟨b0, off, none⟩) (cell_lt c0)).trans c0
  have d1 := (hb.cell (p := ⟨b0, off + 1, none⟩) (cell_lt c1)).trans c1
  have d2 := (hb.cell (p := ⟨b0, off + 2, none⟩) (cell_lt c2)).trans c2
  clear hb c0 c1 c2
  cases hg : isGrp l ⟨#[123]⟩ with
  | true =>
    have h2 := HG2.out _ hg
    have e9 := HR.out
    rw [show isGrp l gCur = true from hg, if_pos rfl] at e9
    subst e9
    clear HR HJ HF hg HI
    go_wp2_with fail
    refine (HIn.out h2 w1 HH1.out).mono ?_
    rintro e w2 ⟨rfl, B, rfl, hI⟩
    have HC := Lib.hid (HBd.out h2 B _ hI HP1.out HW1.out)
    clear hI
    go_wp2_with fail
    refine HC.out.mono ?_
    intro e w3 hG
    have HG := Lib.hid (hG.low HB1.out)
    rcases hG.ways with ⟨t, B2, d2, L, -, rfl, -⟩ | ⟨y, -, rfl⟩
    · clear hG
      go_wp2_with fail
      go_ret2
      exact HG.out
    · clear hG
      go_wp2_with fail
      go_ret2
      exact HG.out
  | false =>
    have e9 := HR.out
    rw [show isGrp l gCur = false from hg, if_neg (by simp)] at e9
    have HR1 := Lib.hid e9
    clear HR e9 hg HBd
    go_wp2_with fail
    refine (HI.out _ w1 HH1.out HW1.out.listed).mono ?_
    rintro e w2 ⟨rfl, hb⟩
    have HB2 := Lib.hid (HB1.out.trans (hb.mono HB1.out.size))
    have HH2 := Lib.hid (HH1.out.below hb)
    have HP2 := Lib.hid (HP1.out.below hb)
    have HW2 := Lib.hid (HW1.out.below hb)
    have f0 := (hb.cell (p := ⟨b0, off, none⟩) (cell_lt d0)).trans d0
    have f1 := (hb.cell (p := ⟨b0, off + 1, none⟩) (cell_lt d1)).trans d1
    have f2 := (hb.cell (p := ⟨b0, off + 2, none⟩) (cell_lt d2)).trans d2
    clear hb d0 d1 d2
    cases hg : isGrp l ⟨#[40]⟩ with
    | true =>
      have h2 := HG2.out _ hg
      have e9 := HR1.out
      rw [show isGrp l gPar = true from hg, if_pos rfl] at e9
      have HR2 := Lib.hid e9
      clear HR1 e9 HJ hg HI
      go_wp2_with fail
      refine (HIn.out h2 w2 HH2.out).mono ?_
      rintro e w3 ⟨rfl, B, rfl, hI⟩
      have HC := Lib.hid (HF.out h2 B _ hI HP2.out HW2.out)
      clear hI
      go_wp2_with fail
      refine HC.out.mono ?_
      intro e w4 hG
      have HB4 := Lib.hid (HB2.out.trans (hG.1.mono HB2.out.size))
      have HW4 := Lib.hid (HW2.out.below hG.1)
      rcases hG.ways with ⟨t, B2, d2, L, rfl, rfl, hN, hM, hO⟩ | ⟨y, rfl, rfl⟩
      · obtain ⟨hT, hd⟩ := has_holds hN hM
        have hbK := below_new w4 (.cells #[.slice B2 t.length d2] 23)
        have HC := Lib.hid (join_p 5 noB [t] (some ⟨w4.heap.size, 0, none⟩) 1 a b _ (by decide) (by decide) (by simp) (one_holds (heap_alloc_new w4 (.cells #[.slice B2 t.length d2] 23)) (hT.below hbK) hd) (fun u hu => by cases List.mem_singleton.1 hu; exact hO) (HW4.out.below hbK))
        have HB := Lib.hid (HB4.out.trans (hbK.mono HB4.out.size))
        have e9 : R = joinP 5 noB [t] := HR2.out
        rw [← e9] at HC
        unfold noB at HC
        clear hG hN hM hO hT hbK e9 HR2
        go_wp2_with fail
        refine HC.out.mono ?_
        intro e w2 hG
        have HG := Lib.hid (hG.low HB.out)
        rcases hG.ways with ⟨t, B, d, L, -, rfl, -⟩ | ⟨y, -, rfl⟩
        · clear hG
          go_wp2_with fail
          go_ret2
          exact HG.out
        · clear hG
          go_wp2_with fail
          go_ret2
          exact HG.out
      · have e9 : R = .error y := HR2.out
        clear hG
        go_wp2_with fail
        go_ret2
        rw [e9]
        exact ⟨HB4.out, rfl⟩
    | false =>
      have e9 := HR1.out
      rw [show isGrp l gPar = false from hg, if_neg (by simp)] at e9
      have HR2 := Lib.hid e9
      clear HR1 e9 hg HI HF HIn
      by_cases h6 : x.kind = 6
      · have e9 := HR2.out
        rw [if_pos h6] at e9
        have HC := Lib.hid (HJ.out 9 x.glyph _ (by decide) (by omega) HW2.out)
        rw [← e9] at HC
        rw [h6] at f0
        clear e9 HR2 HJ
        go_wp2_with fail
        refine HC.out.mono ?_
        intro e w2 hG
        have HG := Lib.hid (hG.low HB2.out)
        rcases hG.ways with ⟨t, B, d, L, -, rfl, -⟩ | ⟨y, -, rfl⟩
        · clear hG
          go_wp2_with fail
          go_ret2
          exact HG.out
        · clear hG
          go_wp2_with fail
          go_ret2
          exact HG.out
      · have e9 := HR2.out
        rw [if_neg h6] at e9
        have HC := Lib.hid (HJ.out 14 x.text _ (by decide) (by omega) HW2.out)
        rw [← e9] at HC
        have q6 : (x.kind == 6) = false := by simp [h6]
        clear e9 HR2 HJ
        go_wp2_with fail
        refine HC.out.mono ?_
        intro e w2 hG
        have HG := Lib.hid (hG.low HB2.out)
        rcases hG.ways with ⟨t, B, d, L, -, rfl, -⟩ | ⟨y, -, rfl⟩
        · clear hG
          go_wp2_with fail
          go_ret2
          exact HG.out
        · clear hG
          go_wp2_with fail
          go_ret2
          exact HG.out

/-- Where the loop over operators stands. -/
def OpAt (b : Addr) (w : World) (ops : List Tok) (R : PR) (i : Nat) (tv ev : Value) (wr : World) : Prop :=
  (∃ t B d L, tv = .slice B t.length d ∧ ev = .nilIface ∧ Nz.HasN wr w.heap.size (.slice B t.length d) L ∧ L.map Prod.fst = t ∧ OkT t ∧ R = opsGo (.ok t) (ops.drop i))
  ∨ (∃ x, tv = .slice none 0 0 ∧ ev = .iface (errT x) (errX b x) ∧ R = .error x)
theorem opsGo_error (x : Bool) : ∀ l, opsGo (.error x) l = .error x
  | [] => rfl
  | _ :: l => by unfold opsGo; exact opsGo_error x l

set_option maxRecDepth 100000 in
set_option maxHeartbeats 8000000 in
theorem fun_p (a b : Addr) (p : Pz) (pb : Nat) (A : Option Addr) (c' : Nat) (env : List Bd) (inner : Bool) (TA : Option Addr) (c : Nat) (l : List Tok) (w : World)
    (HS0 : 1 ≤ l.length → KOk a b (l.length - 2) 41 p.stmt) (HFn0 : 1 ≤ l.length → KOk a b (l.length - 2) 33 p.fn)
    (hl : OkL l) (hn : env.length + 100 * l.length ≤ 50000) (hc : l.length ≤ c) (hh : HoldsT w TA l) (hp : Par w pb A c' env inner) (hw : WOk a b w) :
    Calls Tryz.prog 33 #[.pointer (some ⟨pb, 0, none⟩), .slice TA l.length c] w (GivesP (funP p env inner l) b · w ·) := by
  have hlen := hl.len
  have HF := Lib.hid (isFn_any pb A c' env inner (l.length + 1) l TA c w (by omega) hl hc hh hp hw.listed)
  obtain ⟨R, hR⟩ : ∃ R, R = funP p env inner l := ⟨_, rfl⟩
  rw [← hR]
  unfold funP at hR
  have HH := Lib.hid hh
  have HP := Lib.hid hp
  have HW := Lib.hid hw
  cases hf : isFn env l with
  | false =>
    rw [hf] at HF hR
    subst hR
    clear hh hp hw hl HS0 HFn0 hf
    go_enter Tryz.func33, Tryz.ntmps33
    go_wp2_with fail
    refine HF.out.mono ?_
    rintro e w1 ⟨rfl, hb⟩
    have hs := (HW.out.below hb).syn
    unfold errSyntaxAt at hs
    have HB := Lib.hid hb
    clear hb
    go_wp2_with fail
    go_quiet (fail)
    go_wp2_with fail
    go_ret2
    exact ⟨drewN_below HB.out _, rfl⟩
  | true =>
    rw [hf, if_pos rfl] at hR
    rw [hf] at HF
    have h1 : 1 ≤ l.length := by
      cases l with
      | nil =>
        rw [isFn_eq] at hf
        simp [isGrp] at hf
      | cons x l => simp
    have HS := HS0 h1
    have HFn := HFn0 h1
    clear HS0 HFn0
    have hc1 := cutN_le l
    have hc0 := cutN_pos h1
    have HC := Lib.hid (fun W (h : HoldsT W TA l) => cut_any TA c l W hl hc h)
    have hlb : (l.take (cutN l)).length = cutN l := by rw [List.length_take]; omega
    have HBs := Lib.hid (fun W (h : HoldsT W TA l) (q : Par W pb A c' env inner) (v : WOk a b W) => base_p a b p pb A c' env inner TA (cutN l) (l.take (cutN l)) W (HS.mono (by omega)) (HFn.mono (by omega)) (hl.take _) (by omega) (by omega) (by omega) (HoldsT.to h _) q v)
    have hlo : (l.drop (cutN l)).length = l.length - cutN l := List.length_drop
    rw [hlb] at HBs
    have HOo := Lib.hid (hl.drop (cutN l))
    generalize baseP p env inner (l.take (cutN l)) = rb at *
    generalize cutN l = m at *
    generalize hops : l.drop m = ops at *
    rw [← hlo] at HC
    have HR := Lib.hid hR
    have hol : ops.length ≤ 100 := by omega
    clear hh hp hw hl HS HFn hf hR hlb hlo hops hc0 hc1 h1
    go_enter Tryz.func33, Tryz.ntmps33
    go_wp2_with fail
    refine HF.out.mono ?_
    rintro e w1 ⟨rfl, hb⟩
    have HB1 := Lib.hid hb
    have HH1 := Lib.hid (HH.out.below hb)
    have HP1 := Lib.hid (HP.out.below hb)
    have HW1 := Lib.hid (HW.out.below hb)
    clear hb HF
    go_wp2_with fail
    refine (HC.out w1 HH1.out).mono ?_
    rintro e w2 ⟨hb, B2, d2, rfl, hd2, hT2⟩
    have HB2 := Lib.hid (HB1.out.trans (hb.mono HB1.out.size))
    have HH2 := Lib.hid (HH1.out.below hb)
    have HP2 := Lib.hid (HP1.out.below hb)
    have HW2 := Lib.hid (HW1.out.below hb)
    have HOp := Lib.hid (hT2.below hb)
    clear hb HC hT2
    go_wp2_with fail
    refine (HBs.out w2 HH2.out HP2.out HW2.out).mono ?_
    intro e w3 hG
    have HB3 := Lib.hid (HB2.out.trans (hG.1.mono HB2.out.size))
    have HW3 := Lib.hid (HW2.out.below hG.1)
    have HOp3 := Lib.hid (HOp.out.below hG.1)
    have hstart : ∃ tv ev, e = .returned (.tuple #[tv, ev]) ∧ OpAt b w ops R 0 tv ev w3 := by
      rcases (hG.low HB2.out).ways with ⟨t, B, d, L, rfl, rfl, hN, hM, hO⟩ | ⟨y, rfl, rfl⟩
      · exact ⟨_, _, rfl, .inl ⟨t, B, d, L, rfl, rfl, hN, hM, hO, HR.out⟩⟩
      · exact ⟨_, _, rfl, .inr ⟨y, rfl, rfl, by rw [HR.out, opsGo_error]⟩⟩
    obtain ⟨tv, ev, rfl, hst⟩ := hstart
    have HSt := Lib.hid hst
    clear hG hst HR HBs HH2 HP2 HH1 HP1 HW1 HOp HW2
    go_wp2_with fail
    go_loopw [8, 9, 30] (fun tv ev iv wr => ∃ (i : Nat), iv = .int .i64 i ∧ i ≤ ops.length ∧ Hid (OpAt b w ops R i tv ev wr) ∧ Hid (Below w3.heap.size w3 wr)) (fun _ _ iv _ => ops.length - (intOf iv).toNat)
    case atStart => exact ⟨0, rfl, Nat.zero_le _, HSt, Lib.hid (Below.refl _ _)⟩
    case round =>
      obtain ⟨i, rfl, hi, HE, HB⟩ := hrel
      have hsz := HB.out.size
      by_cases hlt : i < ops.length
      · have i1 : (i : Int) < (ops.length : Int) := by omega
        have i0 : (0 : Int) ≤ (i : Int) := by omega
        have gi := List.getElem?_eq_getElem hlt
        have hmem := List.getElem_mem hlt
        obtain ⟨b0, off, rfl, d0, d1, dd2⟩ := (HOp3.out.below HB.out) i _ gi
        have hsm := HOo.out.small _ hmem
        have hd : ops.drop i = ops[i] :: ops.drop (i + 1) := List.drop_eq_getElem_cons hlt
        rcases HE.out with ⟨t, B, d, L, rfl, rfl, hN, hM, hO, hR⟩ | ⟨x, rfl, rfl, hR⟩
        · rw [hd] at hR
          have HR := Lib.hid (show R = opsGo (joinP 10 (ops[i]).glyph [t]) (ops.drop (i + 1)) from hR)
          generalize ops[i] = y at *
          obtain ⟨hT, hdd⟩ := has_holds hN hM
          have hb1 := below_new wr (.cells #[.int .i64 y.kind, .string y.text, .string y.glyph] 37)
          have hb2 := hb1.alloc hb1.size (.cells #[.slice B t.length d] 23)
          have hg := heap_alloc_new (wr.alloc (.cells #[.int .i64 y.kind, .string y.text, .string y.glyph] 37)) (.cells #[.slice B t.length d] 23)
          simp only [World.size_alloc] at hg
          have HC := Lib.hid (join_p 10 y.glyph [t] (some ⟨wr.heap.size + 1, 0, none⟩) 1 a b _ (by decide) (by omega) (by simp) (one_holds hg (hT.below hb2) hdd) (fun u hu => by cases List.mem_singleton.1 hu; exact hO) ((HW3.out.below HB.out).below hb2))
          have HB5 := Lib.hid (HB.out.trans (hb2.mono hsz))
          have HB6 := Lib.hid (HB3.out.trans (HB5.out.mono HB3.out.size))
          generalize joinP 10 y.glyph [t] = rj at *
          clear hN hM hO hT hb1 hb2 hg HE hR gi hmem hd
          go_wp2_with fail
          refine HC.out.mono ?_
          intro e w5 hG
          have HBx := Lib.hid (HB5.out.trans (hG.1.mono HB5.out.size))
          have hE9 : ∃ tv ev, e = .returned (.tuple #[tv, ev]) ∧ OpAt b w ops R (i + 1) tv ev w5 := by
            rcases (hG.low HB6.out).ways with ⟨t, B, d, L, rfl, rfl, hN, hM, hO⟩ | ⟨y, rfl, rfl⟩
            · exact ⟨_, _, rfl, .inl ⟨t, B, d, L, rfl, rfl, hN, hM, hO, HR.out⟩⟩
            · exact ⟨_, _, rfl, .inr ⟨y, rfl, rfl, by rw [HR.out, opsGo_error]⟩⟩
          obtain ⟨tv, ev, rfl, hst⟩ := hE9
          have HE9 := Lib.hid hst
          clear hG hst HC HR
          go_wp2_with fail
          go_roundw
          case rel => exact ⟨i + 1, by go_num, by omega, HE9, HBx⟩
          case measure => simp [intOf]; omega
        · generalize ops[i] = y at *
          have HE9 := Lib.hid (show OpAt b w ops R (i + 1) (.slice none 0 0) (.iface (errT x) (errX b x)) (wr.alloc (.cells #[.int .i64 y.kind, .string y.text, .string y.glyph] 37)) from .inr ⟨x, rfl, rfl, hR⟩)
          have HBx := Lib.hid (HB.out.trans ((below_new wr (.cells #[.int .i64 y.kind, .string y.text, .string y.glyph] 37)).mono hsz))
          clear hR HE gi hmem hd
          go_wp2_with fail
          go_roundw
          case rel => exact ⟨i + 1, by go_num, by omega, HE9, HBx⟩
          case measure => simp [intOf]; omega
      · obtain rfl : i = ops.length := by omega
        have i1 : ¬ (ops.length : Int) < (ops.length : Int) := by omega
        have HF9 : Hid (GivesP R b (.returned (.tuple #[u8, u9])) w wr) := Lib.hid (by
          rcases HE.out with ⟨t, B, d, L, rfl, rfl, hN, hM, hO, hR⟩ | ⟨x, rfl, rfl, hR⟩
          · rw [hR, List.drop_length]
            exact ⟨HB3.out.trans (HB.out.mono HB3.out.size), B, d, L, rfl, hN, hM, hO⟩
          · rw [hR]
            exact ⟨HB3.out.trans (HB.out.mono HB3.out.size), rfl⟩)
        clear HE
        go_wp2_with fail
        go_ret2
        exact HF9.out
end Go.Proofs.YtebejlnegalokaaGreatDoor
/-
  Statements' trees: by the program.
-/
namespace Go.Proofs.YtebejlnegalokaaGreatDoor
open Go Go.RowKit Go.Maps
open Gz (Tok HoldsT HoldsTT splitRes gPar gCur)
open Nz (Nd rightN joinN HoldsN IntN HoldsTs errNodeAt)

def setFin (x : ByteArray) (r : PR) : PR := match r with
  | .error e => .error e
  | .ok t => joinP 8 x [t]
def grdFin2 (a : List Nd) (r : PR) : PR := match r with
  | .error e => .error e
  | .ok b => joinP 12 noB [a, b]
def grdFin (r s : PR) : PR := match r with
  | .error e => .error e
  | .ok a => grdFin2 a s
set_option maxRecDepth 100000 in
set_option maxHeartbeats 16000000 in
theorem stmt_p (a b : Addr) (p : Pz) (pb : Nat) (A : Option Addr) (c' : Nat) (env : List Bd) (inner : Bool) (TA : Option Addr) (c : Nat) (l : List Tok) (w : World)
    (HX : KOk a b l.length 32 p.expr) (HFn : KOk a b l.length 33 p.fn)
    (hl : OkL l) (hn : env.length + 100 * l.length ≤ 50000) (hc : l.length ≤ c) (hh : HoldsT w TA l) (hp : Par w pb A c' env inner) (hw : WOk a b w) :
    Calls Tryz.prog 41 #[.pointer (some ⟨pb, 0, none⟩), .slice TA l.length c] w (GivesP (stmtP p env inner l) b · w ·) := by
  have hlen := hl.len
  have hpp := splitRes_parts l gCol
  have HSp := Lib.hid (fun W (h : HoldsT W TA l) (v : WOk a b W) => Gz.gsplit_any TA c l gCol W hl.mild hc h v.listed)
  unfold gCol at HSp
  obtain ⟨R, hR⟩ : ∃ R, R = stmtP p env inner l := ⟨_, rfl⟩
  rw [← hR]
  unfold stmtP at hR
  have HRn := Lib.hid (fun (h : makes l = false) => show R = (if (splitRes l gCol).1.length = 2 ∧ inner = true then
    grdFin (p.expr env inner ((splitRes l gCol).1.getD 0 [])) (p.expr env inner ((splitRes l gCol).1.getD 1 []))
    else p.expr env inner l) by rw [hR, h, if_neg (by simp)]; rfl)
  have HRy := Lib.hid (fun (h : makes l = true) => show R = setFin ((l[0]?).map (·.text) |>.getD noB) (if isFn env (l.drop 2) then p.fn env inner (l.drop 2) else p.expr env inner (l.drop 2)) by rw [hR, h, if_pos rfl]; rfl)
  have HEp := Lib.hid (fun (q : List Tok) (hq : q ∈ (splitRes l gCol).1) B d W (h1 : q.length ≤ d) (h2 : HoldsT W B q) (h3 : Par W pb A c' env inner) (h4 : WOk a b W) =>
    HX pb A c' env inner q B d W (hpp.2 q hq).1 (by have := (hpp.2 q hq).1; omega) (hl.part (hpp.2 q hq).1 (hpp.2 q hq).2) h1 h2 h3 h4)
  have HEx := Lib.hid (fun W (h : HoldsT W TA l) (q : Par W pb A c' env inner) (v : WOk a b W) => HX pb A c' env inner l TA c W (Nat.le_refl _) hn hl hc h q v)
  rw [show (⟨#[58]⟩ : ByteArray) = gCol from rfl] at HSp
  generalize (splitRes l gCol).2 = code at *
  generalize (splitRes l gCol).1 = parts at *
  unfold gCol at HSp
  have HH := Lib.hid hh
  have HP := Lib.hid hp
  have HW := Lib.hid hw
  have HB := Lib.hid (Below.refl w.heap.size w)
  by_cases h2 : 2 < l.length
  · have g0 := List.getElem?_eq_getElem (l := l) (i := 0) (by omega)
    have g1 := List.getElem?_eq_getElem (l := l) (i := 1) (by omega)
    obtain ⟨b0, off, rfl, c0, c1, c2⟩ := hh 0 _ g0
    obtain ⟨b0', off', e, d0, d1, d2⟩ := hh 1 _ g1
    cases e
    simp only [Nat.zero_mul, Nat.add_zero, Nat.one_mul] at c0 c1 c2 d0 d1 d2
    have hsx := hl.small _ (List.getElem_mem (show 0 < l.length by omega))
    have hmk : makes l = (decide ((l[0]).kind = 5) && (l[1]).isSign gSet) := by
      unfold makes
      rw [g0, g1, decide_eq_true h2]
      rfl
    have hl0 : ((l[0]?).map (·.text) |>.getD noB) = (l[0]).text := by rw [g0]; rfl
    rw [hl0] at HRy
    have hs2 : (l.drop 2).length = l.length - 2 := List.length_drop
    have HFs := Lib.hid (fun W (h : HoldsT W (some ⟨b0, off, none⟩) l) (q : Par W pb A c' env inner) (v : WOk a b W) => isFn_any pb A c' env inner (l.length + 1) (l.drop 2) (some ⟨b0, off + 2 * 3, none⟩) (c - 2) W (by omega) (hl.drop 2) (by omega) (HoldsT.fromS h 2) q v.listed)
    have HF2 := Lib.hid (fun W (h : HoldsT W (some ⟨b0, off, none⟩) l) (q : Par W pb A c' env inner) (v : WOk a b W) => HFn pb A c' env inner (l.drop 2) (some ⟨b0, off + 2 * 3, none⟩) (c - 2) W (by omega) (by omega) (hl.drop 2) (by omega) (HoldsT.fromS h 2) q v)
    have HE2 := Lib.hid (fun W (h : HoldsT W (some ⟨b0, off, none⟩) l) (q : Par W pb A c' env inner) (v : WOk a b W) => HX pb A c' env inner (l.drop 2) (some ⟨b0, off + 2 * 3, none⟩) (c - 2) W (by omega) (by omega) (hl.drop 2) (by omega) (HoldsT.fromS h 2) q v)
    rw [hs2] at HFs HF2 HE2
    clear hR hh hp hw hl HX HFn g0 g1 hpp hs2 hl0
    generalize p.expr env inner (l.drop 2) = re at *
    generalize p.fn env inner (l.drop 2) = rf at *
    generalize isFn env (l.drop 2) = F at *
    generalize l[0] = x at *
    generalize l[1] = y1 at *
    have HI := Lib.hid (fun u => Gz.isSign_any y1 ⟨#[226, 134, 144]⟩ u)
    unfold Gz.Tok.val at HI
    have k0 : (0 : Int) < (l.length : Int) := by omega
    have k1 : (1 : Int) < (l.length : Int) := by omega
    have k2 : (2 : Int) < (l.length : Int) := by omega
    have k3 : (2 : Int) ≤ (l.length : Int) := by omega
    have k4 : (2 : Int) ≤ (c : Int) := by omega
    have kc : ¬ c = 2 := by omega
    have HMk := Lib.hid hmk
    clear hmk
    by_cases h5 : x.kind = 5
    · rw [h5] at c0
      go_enter Tryz.func41, Tryz.ntmps41
      go_wp2_with fail
      refine (HI.out _).mono ?_
      rintro e w1 ⟨rfl, hb⟩
      have HB1 := Lib.hid hb
      have HH1 := Lib.hid (HH.out.below hb)
      have HP1 := Lib.hid (HP.out.below hb)
      have HW1 := Lib.hid (HW.out.below hb)
      have e1 := (hb.cell (p := ⟨b0, off + 1, none⟩) (cell_lt c1)).trans c1
      clear hb c0 c1 c2 d0 d1 d2
      cases hsg : y1.isSign ⟨#[226, 134, 144]⟩ with
      | false =>
        have hmf : makes l = false := by rw [HMk.out]; simp [h5, show y1.isSign gSet = false from hsg]
        clear hsg HFs HF2 HE2 HMk
        have e9 := HRn.out (by exact hmf)
        have HR1 := Lib.hid e9
        clear e9 HRn HRy HI
        go_wp2_with fail
        refine (HSp.out _ HH1.out HW1.out).mono ?_
        rintro e w5 ⟨B5, d5, rfl, hTT, hb⟩
        have HTT := Lib.hid hTT
        have HB5 := Lib.hid (HB1.out.trans (hb.mono HB1.out.size))
        have HH5 := Lib.hid (HH1.out.below hb)
        have HP5 := Lib.hid (HP1.out.below hb)
        have HW5 := Lib.hid (HW1.out.below hb)
        clear hTT hb HSp
        by_cases hq2 : parts.length = 2
        · have q2 : ((parts.length : Int) != 2) = false := by simp; omega
          obtain ⟨pp0, pp1, hparts⟩ : ∃ a b, parts = [a, b] := by
            match parts, hq2 with
            | [a, b], _ => exact ⟨a, b, rfl⟩
          subst hparts
          cases inner with
          | false =>
            have e9 := HR1.out
            rw [if_neg (by simp)] at e9
            have HC := Lib.hid (HEx.out w5 HH5.out HP5.out HW5.out)
            rw [← e9] at HC
            obtain ⟨p0, p1, p2, p3, p4⟩ := HP5.out
            clear e9 HR1 HEp p2
            go_wp2_with fail
            refine HC.out.mono ?_
            intro e w9 hG
            have HG := Lib.hid (hG.low HB5.out)
            rcases hG.ways with ⟨t, B, d, L, -, rfl, -⟩ | ⟨y, -, rfl⟩
            · clear hG
              go_wp2_with fail
              go_ret2
              exact HG.out
            · clear hG
              go_wp2_with fail
              go_ret2
              exact HG.out
          | true =>
            have e9 := HR1.out
            rw [if_pos ⟨by simp, rfl⟩] at e9
            have HR2 := Lib.hid (show R = grdFin (p.expr env true pp0) (p.expr env true pp1) from e9)
            obtain ⟨b3, o3, Bq0, cq0, rfl, hcq0, hqc0, hHq0⟩ := HTT.out 0 pp0 rfl
            obtain ⟨b3', o3', Bq1, cq1, eb, hcq1, hqc1, hHq1⟩ := HTT.out 1 pp1 rfl
            cases eb
            simp only [Nat.add_zero] at hcq0
            have HC := Lib.hid (HEp.out pp0 (by simp) Bq0 cq0 w5 hqc0 hHq0 HP5.out HW5.out)
            have HC1 := Lib.hid (fun W (hb : Below w5.heap.size w5 W) => HEp.out pp1 (by simp) Bq1 cq1 W hqc1 (hHq1.below hb) (HP5.out.below hb) (HW5.out.below hb))
            obtain ⟨p0, p1, p2, p3, p4⟩ := HP5.out
            generalize p.expr env true pp0 = r0 at *
            generalize p.expr env true pp1 = r1 at *
            clear e9 HR1 HEp p2 hHq0 hHq1 HEx
            go_wp2_with fail
            refine HC.out.mono ?_
            intro e w6 hG
            have HB6 := Lib.hid (HB5.out.trans (hG.1.mono HB5.out.size))
            have HC2 := Lib.hid (HC1.out w6 hG.1)
            have c6 := (hG.1.cell (p := ⟨b3, o3 + 1, none⟩) (cell_lt hcq1)).trans hcq1
            have HW6 := Lib.hid (HW5.out.below hG.1)
            rcases hG.ways with ⟨ta, Ba, da, La, rfl, rfl, hN, hM, hO⟩ | ⟨y, rfl, rfl⟩
            · obtain ⟨hT, hd⟩ := has_holds hN hM
              have HT := Lib.hid hT
              have HO := Lib.hid hO
              have HR3 := Lib.hid (show R = grdFin2 ta r1 from HR2.out)
              clear hG hN hM hT hO HR2 HC HC1
              go_wp2_with fail
              refine HC2.out.mono ?_
              intro e w7 hG
              have HB7 := Lib.hid (HB6.out.trans (hG.1.mono HB6.out.size))
              have HW7 := Lib.hid (HW6.out.below hG.1)
              have HT7 := Lib.hid (HT.out.below hG.1)
              rcases hG.ways with ⟨tb, Bb, db, Lb, rfl, rfl, hN, hM, hO2⟩ | ⟨y, rfl, rfl⟩
              · obtain ⟨hT2, hd2⟩ := has_holds hN hM
                have hbK := below_new w7 (.cells #[.slice Ba ta.length da, .slice Bb tb.length db] 23)
                have HC := Lib.hid (join_p 12 noB [ta, tb] (some ⟨w7.heap.size, 0, none⟩) 2 a b _ (by decide) (by decide) (by simp) (two_holds (heap_alloc_new w7 (.cells #[.slice Ba ta.length da, .slice Bb tb.length db] 23)) (HT7.out.below hbK) hd (hT2.below hbK) hd2) (fun u hu => by
                  rcases List.mem_cons.1 hu with rfl | hu
                  · exact HO.out
                  · cases List.mem_singleton.1 hu; exact hO2) (HW7.out.below hbK))
                have HB8 := Lib.hid (HB7.out.trans (hbK.mono HB7.out.size))
                have e9 : R = joinP 12 noB [ta, tb] := HR3.out
                rw [← e9] at HC
                unfold noB at HC
                clear hG hN hM hO2 hT2 hbK e9 HR3
                go_wp2_with fail
                refine HC.out.mono ?_
                intro e w9 hG
                have HG := Lib.hid (hG.low HB8.out)
                rcases hG.ways with ⟨t, B, d, L, -, rfl, -⟩ | ⟨y, -, rfl⟩
                · clear hG
                  go_wp2_with fail
                  go_ret2
                  exact HG.out
                · clear hG
                  go_wp2_with fail
                  go_ret2
                  exact HG.out
              · have e9 : R = .error y := HR3.out
                clear hG
                go_wp2_with fail
                go_ret2
                rw [e9]
                exact ⟨HB7.out, rfl⟩
            · have e9 : R = .error y := HR2.out
              clear hG
              go_wp2_with fail
              go_ret2
              rw [e9]
              exact ⟨HB6.out, rfl⟩
        · have q2 : ((parts.length : Int) != 2) = true := by simp; omega
          have e9 := HR1.out
          rw [if_neg (fun h => hq2 h.1)] at e9
          have HC := Lib.hid (HEx.out w5 HH5.out HP5.out HW5.out)
          rw [← e9] at HC
          obtain ⟨p0, p1, p2, p3, p4⟩ := HP5.out
          clear e9 HR1 HEp p2 hq2
          go_wp2_with fail
          refine HC.out.mono ?_
          intro e w9 hG
          have HG := Lib.hid (hG.low HB5.out)
          rcases hG.ways with ⟨t, B, d, L, -, rfl, -⟩ | ⟨y, -, rfl⟩
          · clear hG
            go_wp2_with fail
            go_ret2
            exact HG.out
          · clear hG
            go_wp2_with fail
            go_ret2
            exact HG.out
      | true =>
        have hmt : makes l = true := by rw [HMk.out]; simp [h5, show y1.isSign gSet = true from hsg]
        have HR1 := Lib.hid (HRy.out hmt)
        clear hsg HMk HRy HRn HSp HEp HEx HI hmt
        go_wp2_with fail
        refine (HFs.out w1 HH1.out HP1.out HW1.out).mono ?_
        rintro e w2 ⟨rfl, hb⟩
        have HB2 := Lib.hid (HB1.out.trans (hb.mono HB1.out.size))
        have HH2 := Lib.hid (HH1.out.below hb)
        have HP2 := Lib.hid (HP1.out.below hb)
        have HW2 := Lib.hid (HW1.out.below hb)
        have e2 := (hb.cell (p := ⟨b0, off + 1, none⟩) (cell_lt e1)).trans e1
        clear hb e1
        cases F with
        | true =>
          have HC := Lib.hid (HF2.out w2 HH2.out HP2.out HW2.out)
          have HR2 := Lib.hid (show R = setFin x.text rf from HR1.out)
          clear HFs HF2 HE2 HR1
          go_wp2_with fail
          refine HC.out.mono ?_
          intro e w3 hG
          have HB3 := Lib.hid (HB2.out.trans (hG.1.mono HB2.out.size))
          have HW3 := Lib.hid (HW2.out.below hG.1)
          have e3 := (hG.1.cell (p := ⟨b0, off + 1, none⟩) (cell_lt e2)).trans e2
          rcases hG.ways with ⟨t, B2, d2, L, rfl, rfl, hN, hM, hO⟩ | ⟨y, rfl, rfl⟩
          · obtain ⟨hT, hd⟩ := has_holds hN hM
            have hbK := below_new w3 (.cells #[.slice B2 t.length d2] 23)
            have HC := Lib.hid (join_p 8 x.text [t] (some ⟨w3.heap.size, 0, none⟩) 1 a b _ (by decide) (by omega) (by simp) (one_holds (heap_alloc_new w3 (.cells #[.slice B2 t.length d2] 23)) (hT.below hbK) hd) (fun u hu => by cases List.mem_singleton.1 hu; exact hO) (HW3.out.below hbK))
            have HB4 := Lib.hid (HB3.out.trans (hbK.mono HB3.out.size))
            have e9 : R = joinP 8 x.text [t] := HR2.out
            rw [← e9] at HC
            clear hG hN hM hO hT hbK e9 HR2 e2
            go_wp2_with fail
            refine HC.out.mono ?_
            intro e w9 hG
            have HG := Lib.hid (hG.low HB4.out)
            rcases hG.ways with ⟨t, B, d, L, -, rfl, -⟩ | ⟨y, -, rfl⟩
            · clear hG
              go_wp2_with fail
              go_ret2
              exact HG.out
            · clear hG
              go_wp2_with fail
              go_ret2
              exact HG.out
          · have e9 : R = .error y := HR2.out
            clear hG
            go_wp2_with fail
            go_ret2
            rw [e9]
            exact ⟨HB3.out, rfl⟩
        | false =>
          have HC := Lib.hid (HE2.out w2 HH2.out HP2.out HW2.out)
          have HR2 := Lib.hid (show R = setFin x.text re from HR1.out)
          clear HFs HF2 HE2 HR1
          go_wp2_with fail
          refine HC.out.mono ?_
          intro e w3 hG
          have HB3 := Lib.hid (HB2.out.trans (hG.1.mono HB2.out.size))
          have HW3 := Lib.hid (HW2.out.below hG.1)
          have e3 := (hG.1.cell (p := ⟨b0, off + 1, none⟩) (cell_lt e2)).trans e2
          rcases hG.ways with ⟨t, B2, d2, L, rfl, rfl, hN, hM, hO⟩ | ⟨y, rfl, rfl⟩
          · obtain ⟨hT, hd⟩ := has_holds hN hM
            have hbK := below_new w3 (.cells #[.slice B2 t.length d2] 23)
            have HC := Lib.hid (join_p 8 x.text [t] (some ⟨w3.heap.size, 0, none⟩) 1 a b _ (by decide) (by omega) (by simp) (one_holds (heap_alloc_new w3 (.cells #[.slice B2 t.length d2] 23)) (hT.below hbK) hd) (fun u hu => by cases List.mem_singleton.1 hu; exact hO) (HW3.out.below hbK))
            have HB4 := Lib.hid (HB3.out.trans (hbK.mono HB3.out.size))
            have e9 : R = joinP 8 x.text [t] := HR2.out
            rw [← e9] at HC
            clear hG hN hM hO hT hbK e9 HR2 e2
            go_wp2_with fail
            refine HC.out.mono ?_
            intro e w9 hG
            have HG := Lib.hid (hG.low HB4.out)
            rcases hG.ways with ⟨t, B, d, L, -, rfl, -⟩ | ⟨y, -, rfl⟩
            · clear hG
              go_wp2_with fail
              go_ret2
              exact HG.out
            · clear hG
              go_wp2_with fail
              go_ret2
              exact HG.out
          · have e9 : R = .error y := HR2.out
            clear hG
            go_wp2_with fail
            go_ret2
            rw [e9]
            exact ⟨HB3.out, rfl⟩
    · have q5 : (x.kind == 5) = false := by simp [h5]
      have hmf : makes l = false := by rw [HMk.out]; simp [h5]
      clear HFs HF2 HE2 HMk
      go_enter Tryz.func41, Tryz.ntmps41
      have e9 := HRn.out (by exact hmf)
      have HR1 := Lib.hid e9
      clear e9 HRn HRy HI
      go_wp2_with fail
      refine (HSp.out _ HH.out HW.out).mono ?_
      rintro e w5 ⟨B5, d5, rfl, hTT, hb⟩
      have HTT := Lib.hid hTT
      have HB5 := Lib.hid (HB.out.trans (hb.mono HB.out.size))
      have HH5 := Lib.hid (HH.out.below hb)
      have HP5 := Lib.hid (HP.out.below hb)
      have HW5 := Lib.hid (HW.out.below hb)
      clear hTT hb HSp
      by_cases hq2 : parts.length = 2
      · have q2 : ((parts.length : Int) != 2) = false := by simp; omega
        obtain ⟨pp0, pp1, hparts⟩ : ∃ a b, parts = [a, b] := by
          match parts, hq2 with
          | [a, b], _ => exact ⟨a, b, rfl⟩
        subst hparts
        cases inner with
        | false =>
          have e9 := HR1.out
          rw [if_neg (by simp)] at e9
          have HC := Lib.hid (HEx.out w5 HH5.out HP5.out HW5.out)
          rw [← e9] at HC
          obtain ⟨p0, p1, p2, p3, p4⟩ := HP5.out
          clear e9 HR1 HEp p2
          go_wp2_with fail
          refine HC.out.mono ?_
          intro e w9 hG
          have HG := Lib.hid (hG.low HB5.out)
          rcases hG.ways with ⟨t, B, d, L, -, rfl, -⟩ | ⟨y, -, rfl⟩
          · clear hG
            go_wp2_with fail
            go_ret2
            exact HG.out
          · clear hG
            go_wp2_with fail
            go_ret2
            exact HG.out
        | true =>
          have e9 := HR1.out
          rw [if_pos ⟨by simp, rfl⟩] at e9
          have HR2 := Lib.hid (show R = grdFin (p.expr env true pp0) (p.expr env true pp1) from e9)
          obtain ⟨b3, o3, Bq0, cq0, rfl, hcq0, hqc0, hHq0⟩ := HTT.out 0 pp0 rfl
          obtain ⟨b3', o3', Bq1, cq1, eb, hcq1, hqc1, hHq1⟩ := HTT.out 1 pp1 rfl
          cases eb
          simp only [Nat.add_zero] at hcq0
          have HC := Lib.hid (HEp.out pp0 (by simp) Bq0 cq0 w5 hqc0 hHq0 HP5.out HW5.out)
          have HC1 := Lib.hid (fun W (hb : Below w5.heap.size w5 W) => HEp.out pp1 (by simp) Bq1 cq1 W hqc1 (hHq1.below hb) (HP5.out.below hb) (HW5.out.below hb))
          obtain ⟨p0, p1, p2, p3, p4⟩ := HP5.out
          generalize p.expr env true pp0 = r0 at *
          generalize p.expr env true pp1 = r1 at *
          clear e9 HR1 HEp p2 hHq0 hHq1 HEx
          go_wp2_with fail
          refine HC.out.mono ?_
          intro e w6 hG
          have HB6 := Lib.hid (HB5.out.trans (hG.1.mono HB5.out.size))
          have HC2 := Lib.hid (HC1.out w6 hG.1)
          have c6 := (hG.1.cell (p := ⟨b3, o3 + 1, none⟩) (cell_lt hcq1)).trans hcq1
          have HW6 := Lib.hid (HW5.out.below hG.1)
          rcases hG.ways with ⟨ta, Ba, da, La, rfl, rfl, hN, hM, hO⟩ | ⟨y, rfl, rfl⟩
          · obtain ⟨hT, hd⟩ := has_holds hN hM
            have HT := Lib.hid hT
            have HO := Lib.hid hO
            have HR3 := Lib.hid (show R = grdFin2 ta r1 from HR2.out)
            clear hG hN hM hT hO HR2 HC HC1
            go_wp2_with fail
            refine HC2.out.mono ?_
            intro e w7 hG
            have HB7 := Lib.hid (HB6.out.trans (hG.1.mono HB6.out.size))
            have HW7 := Lib.hid (HW6.out.below hG.1)
            have HT7 := Lib.hid (HT.out.below hG.1)
            rcases hG.ways with ⟨tb, Bb, db, Lb, rfl, rfl, hN, hM, hO2⟩ | ⟨y, rfl, rfl⟩
            · obtain ⟨hT2, hd2⟩ := has_holds hN hM
              have hbK := below_new w7 (.cells #[.slice Ba ta.length da, .slice Bb tb.length db] 23)
              have HC := Lib.hid (join_p 12 noB [ta, tb] (some ⟨w7.heap.size, 0, none⟩) 2 a b _ (by decide) (by decide) (by simp) (two_holds (heap_alloc_new w7 (.cells #[.slice Ba ta.length da, .slice Bb tb.length db] 23)) (HT7.out.below hbK) hd (hT2.below hbK) hd2) (fun u hu => by
                rcases List.mem_cons.1 hu with rfl | hu
                · exact HO.out
                · cases List.mem_singleton.1 hu; exact hO2) (HW7.out.below hbK))
              have HB8 := Lib.hid (HB7.out.trans (hbK.mono HB7.out.size))
              have e9 : R = joinP 12 noB [ta, tb] := HR3.out
              rw [← e9] at HC
              unfold noB at HC
              clear hG hN hM hO2 hT2 hbK e9 HR3
              go_wp2_with fail
              refine HC.out.mono ?_
              intro e w9 hG
              have HG := Lib.hid (hG.low HB8.out)
              rcases hG.ways with ⟨t, B, d, L, -, rfl, -⟩ | ⟨y, -, rfl⟩
              · clear hG
                go_wp2_with fail
                go_ret2
                exact HG.out
              · clear hG
                go_wp2_with fail
                go_ret2
                exact HG.out
            · have e9 : R = .error y := HR3.out
              clear hG
              go_wp2_with fail
              go_ret2
              rw [e9]
              exact ⟨HB7.out, rfl⟩
          · have e9 : R = .error y := HR2.out
            clear hG
            go_wp2_with fail
            go_ret2
            rw [e9]
            exact ⟨HB6.out, rfl⟩
      · have q2 : ((parts.length : Int) != 2) = true := by simp; omega
        have e9 := HR1.out
        rw [if_neg (fun h => hq2 h.1)] at e9
        have HC := Lib.hid (HEx.out w5 HH5.out HP5.out HW5.out)
        rw [← e9] at HC
        obtain ⟨p0, p1, p2, p3, p4⟩ := HP5.out
        clear e9 HR1 HEp p2 hq2
        go_wp2_with fail
        refine HC.out.mono ?_
        intro e w9 hG
        have HG := Lib.hid (hG.low HB5.out)
        rcases hG.ways with ⟨t, B, d, L, -, rfl, -⟩ | ⟨y, -, rfl⟩
        · clear hG
          go_wp2_with fail
          go_ret2
          exact HG.out
        · clear hG
          go_wp2_with fail
          go_ret2
          exact HG.out
  · have hmf : makes l = false := by unfold makes; rw [decide_eq_false h2]; rfl
    have k2 : ¬ (2 : Int) < (l.length : Int) := by omega
    have HI : Hid True := Lib.hid trivial
    clear hR hh hp hw hl HX HFn hpp
    go_enter Tryz.func41, Tryz.ntmps41
    have e9 := HRn.out (by exact hmf)
    have HR1 := Lib.hid e9
    clear e9 HRn HRy HI
    go_wp2_with fail
    refine (HSp.out _ HH.out HW.out).mono ?_
    rintro e w5 ⟨B5, d5, rfl, hTT, hb⟩
    have HTT := Lib.hid hTT
    have HB5 := Lib.hid (HB.out.trans (hb.mono HB.out.size))
    have HH5 := Lib.hid (HH.out.below hb)
    have HP5 := Lib.hid (HP.out.below hb)
    have HW5 := Lib.hid (HW.out.below hb)
    clear hTT hb HSp
    by_cases hq2 : parts.length = 2
    · have q2 : ((parts.length : Int) != 2) = false := by simp; omega
      obtain ⟨pp0, pp1, hparts⟩ : ∃ a b, parts = [a, b] := by
        match parts, hq2 with
        | [a, b], _ => exact ⟨a, b, rfl⟩
      subst hparts
      cases inner with
      | false =>
        have e9 := HR1.out
        rw [if_neg (by simp)] at e9
        have HC := Lib.hid (HEx.out w5 HH5.out HP5.out HW5.out)
        rw [← e9] at HC
        obtain ⟨p0, p1, p2, p3, p4⟩ := HP5.out
        clear e9 HR1 HEp p2
        go_wp2_with fail
        refine HC.out.mono ?_
        intro e w9 hG
        have HG := Lib.hid (hG.low HB5.out)
        rcases hG.ways with ⟨t, B, d, L, -, rfl, -⟩ | ⟨y, -, rfl⟩
        · clear hG
          go_wp2_with fail
          go_ret2
          exact HG.out
        · clear hG
          go_wp2_with fail
          go_ret2
          exact HG.out
      | true =>
        have e9 := HR1.out
        rw [if_pos ⟨by simp, rfl⟩] at e9
        have HR2 := Lib.hid (show R = grdFin (p.expr env true pp0) (p.expr env true pp1) from e9)
        obtain ⟨b3, o3, Bq0, cq0, rfl, hcq0, hqc0, hHq0⟩ := HTT.out 0 pp0 rfl
        obtain ⟨b3', o3', Bq1, cq1, eb, hcq1, hqc1, hHq1⟩ := HTT.out 1 pp1 rfl
        cases eb
        simp only [Nat.add_zero] at hcq0
        have HC := Lib.hid (HEp.out pp0 (by simp) Bq0 cq0 w5 hqc0 hHq0 HP5.out HW5.out)
        have HC1 := Lib.hid (fun W (hb : Below w5.heap.size w5 W) => HEp.out pp1 (by simp) Bq1 cq1 W hqc1 (hHq1.below hb) (HP5.out.below hb) (HW5.out.below hb))
        obtain ⟨p0, p1, p2, p3, p4⟩ := HP5.out
        generalize p.expr env true pp0 = r0 at *
        generalize p.expr env true pp1 = r1 at *
        clear e9 HR1 HEp p2 hHq0 hHq1 HEx
        go_wp2_with fail
        refine HC.out.mono ?_
        intro e w6 hG
        have HB6 := Lib.hid (HB5.out.trans (hG.1.mono HB5.out.size))
        have HC2 := Lib.hid (HC1.out w6 hG.1)
        have c6 := (hG.1.cell (p := ⟨b3, o3 + 1, none⟩) (cell_lt hcq1)).trans hcq1
        have HW6 := Lib.hid (HW5.out.below hG.1)
        rcases hG.ways with ⟨ta, Ba, da, La, rfl, rfl, hN, hM, hO⟩ | ⟨y, rfl, rfl⟩
        · obtain ⟨hT, hd⟩ := has_holds hN hM
          have HT := Lib.hid hT
          have HO := Lib.hid hO
          have HR3 := Lib.hid (show R = grdFin2 ta r1 from HR2.out)
          clear hG hN hM hT hO HR2 HC HC1
          go_wp2_with fail
          refine HC2.out.mono ?_
          intro e w7 hG
          have HB7 := Lib.hid (HB6.out.trans (hG.1.mono HB6.out.size))
          have HW7 := Lib.hid (HW6.out.below hG.1)
          have HT7 := Lib.hid (HT.out.below hG.1)
          rcases hG.ways with ⟨tb, Bb, db, Lb, rfl, rfl, hN, hM, hO2⟩ | ⟨y, rfl, rfl⟩
          · obtain ⟨hT2, hd2⟩ := has_holds hN hM
            have hbK := below_new w7 (.cells #[.slice Ba ta.length da, .slice Bb tb.length db] 23)
            have HC := Lib.hid (join_p 12 noB [ta, tb] (some ⟨w7.heap.size, 0, none⟩) 2 a b _ (by decide) (by decide) (by simp) (two_holds (heap_alloc_new w7 (.cells #[.slice Ba ta.length da, .slice Bb tb.length db] 23)) (HT7.out.below hbK) hd (hT2.below hbK) hd2) (fun u hu => by
              rcases List.mem_cons.1 hu with rfl | hu
              · exact HO.out
              · cases List.mem_singleton.1 hu; exact hO2) (HW7.out.below hbK))
            have HB8 := Lib.hid (HB7.out.trans (hbK.mono HB7.out.size))
            have e9 : R = joinP 12 noB [ta, tb] := HR3.out
            rw [← e9] at HC
            unfold noB at HC
            clear hG hN hM hO2 hT2 hbK e9 HR3
            go_wp2_with fail
            refine HC.out.mono ?_
            intro e w9 hG
            have HG := Lib.hid (hG.low HB8.out)
            rcases hG.ways with ⟨t, B, d, L, -, rfl, -⟩ | ⟨y, -, rfl⟩
            · clear hG
              go_wp2_with fail
              go_ret2
              exact HG.out
            · clear hG
              go_wp2_with fail
              go_ret2
              exact HG.out
          · have e9 : R = .error y := HR3.out
            clear hG
            go_wp2_with fail
            go_ret2
            rw [e9]
            exact ⟨HB7.out, rfl⟩
        · have e9 : R = .error y := HR2.out
          clear hG
          go_wp2_with fail
          go_ret2
          rw [e9]
          exact ⟨HB6.out, rfl⟩
    · have q2 : ((parts.length : Int) != 2) = true := by simp; omega
      have e9 := HR1.out
      rw [if_neg (fun h => hq2 h.1)] at e9
      have HC := Lib.hid (HEx.out w5 HH5.out HP5.out HW5.out)
      rw [← e9] at HC
      obtain ⟨p0, p1, p2, p3, p4⟩ := HP5.out
      clear e9 HR1 HEp p2 hq2
      go_wp2_with fail
      refine HC.out.mono ?_
      intro e w9 hG
      have HG := Lib.hid (hG.low HB5.out)
      rcases hG.ways with ⟨t, B, d, L, -, rfl, -⟩ | ⟨y, -, rfl⟩
      · clear hG
        go_wp2_with fail
        go_ret2
        exact HG.out
      · clear hG
        go_wp2_with fail
        go_ret2
        exact HG.out
end Go.Proofs.YtebejlnegalokaaGreatDoor
