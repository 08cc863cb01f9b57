/- Part 35 of the proof of the claim: contracts of the functions that it reaches, and plain laws; no condition. -/
import Derived.Test.YtedlgnoiojcjaaaGreatDoorV33
import Derived.Test.YtedlgnoiojcjaaaGreatDoorV34
set_option maxRecDepth 100000
namespace Go.Proofs.YtedlgnoiojcjaaaGreatDoor
open Go.RowKit Go.Sort
theorem ix2_a (w : World) (v0 v1 v2 v3 v4 v5 v6 v7 : Value) : (Instr.index 130 (.agg #[v0, v1, v2, v3, v4, v5, v6, v7]) (.int .i64 0)).run Tryz.prog w = .ok (.agg #[v0, v1, v2, v3]) w := by
 simp [Instr.index, run_underlying Tryz.underlying130, asIntOf, go_sem]
theorem ix2_b (w : World) (v0 v1 v2 v3 v4 v5 v6 v7 : Value) : (Instr.index 130 (.agg #[v0, v1, v2, v3, v4, v5, v6, v7]) (.int .i64 1)).run Tryz.prog w = .ok (.agg #[v4, v5, v6, v7]) w := by
 simp [Instr.index, run_underlying Tryz.underlying130, asIntOf, go_sem]
def bldG (G G' : List (List Rat)) (k : Rat) (n : Nat) : List (List Rat) := (List.range G.length).map fun i => cmbQ [G.getD i [], G'.getD i []] [1 - k, k] n
@[simp] theorem bldG_length (G G' : List (List Rat)) (k : Rat) (n : Nat) : (bldG G G' k n).length = G.length := by simp [bldG]
theorem bldG_snoc {G G' : List (List Rat)} {k : Rat} {n i : Nat} (h : i < G.length) (h' : i < G'.length) : (bldG G G' k n).take i ++ [cmbQ [G[i], G'[i]] [1 - k, k] n] = (bldG G G' k n).take (i + 1) := by
 have h2 : i < (bldG G G' k n).length := by simpa using h
 rw [List.take_succ_eq_append_getElem h2]
 congr 2
 simp [bldG, h, h']
def BldPost2 (w : World) (P : List Int) (C M : Mx) (G : List (List Rat)) (P' : List Int) (C' M' : Mx) (G' : List (List Rat)) (a b : List UInt8) (e : Ending) (w' : World) : Prop :=
 (¬ (P = P' ∧ C = C' ∧ M = M') ∧ e = .returned (.tuple #[tuZ, .int .i64 14]) ∧ Ext w w') ∨ ((P = P' ∧ C = C' ∧ M = M') ∧ frE a b ≠ 0 ∧ e = .returned (.tuple #[tuZ, .int .i64 2]) ∧ Ext w w') ∨ ((P = P' ∧ C = C' ∧ M = M') ∧ frE a b = 0 ∧ ∃ k : Rat, a = Lib.itoa k.num ∧ b = Lib.itoa k.den ∧ MdPost w P C M (bldG G G' k P.length) e w')
set_option maxHeartbeats 8000000 in
theorem tuBlend_any {w : World} {P : List Int} {C M : Mx} {G : List (List Rat)} {sp : Option Addr} {cp : Nat} {sc : Option Addr} {lc cc : Nat} {sm : Option Addr} {lm cm : Nat} {sg : Option Addr} {lg cg : Nat} {P' : List Int} {C' M' : Mx} {G' : List (List Rat)} {sp' : Option Addr} {cp' : Nat} {sc' : Option Addr} {lc' cc' : Nat} {sm' : Option Addr} {lm' cm' : Nat} {sg' : Option Addr} {lg' cg' : Nat} {a b : List UInt8} (h : TuV w P C M G sp cp sc lc cc sm lm cm sg lg cg) (h' : TuV w P' C' M' G' sp' cp' sc' lc' cc' sm' lm' cm' sg' lg' cg') (ha : a.length ≤ 40) (hb : b.length ≤ 40) (hL : Laid w) :
  Calls Tryz.prog 28 #[tuS P sp cp sc lc cc sm lm cm sg lg cg, tuS P' sp' cp' sc' lc' cc' sm' lm' cm' sg' lg' cg', .agg #[S a, S b]] w (BldPost2 w P C M G P' C' M' G' a b) := by
 have hck := Lib.hid (fun W (hW : Ext w W) => tuCheck_any (h.ext hW) (hL.ext hW))
 have hck2 := Lib.hid (fun W (hW : Ext w W) => tuCheck_any (h'.ext hW) (hL.ext hW))
 have hfc := Lib.hid (fun W (hW : Ext w W) => fcheck_all (a := a) (b := b) (by omega) (by omega) (hL.ext hW))
 have heq := Lib.hid (fun W (hW : Ext w W) => tmEqual_any (h.tm.ext hW) (h'.tm.ext hW))
 have hln' := h'.ln
 have hcl' := h'.cl
 have hsh' := h'.sh
 have hG' := h'.gn
 obtain ⟨hT, hG, hln, hcl, hsh⟩ := h
 have hp4 := hT.ok.p4
 have hm4 := hT.m4
 have hlg := hG.len
 have hlg' := hG'.len
 have hg4 : G.length ≤ 4 := by omega
 subst hlg
 subst hlg'
 have HT := Lib.hid hT
 have HG := Lib.hid hG
 have HG' := Lib.hid hG'
 have HL := Lib.hid hL
 have Hln := Lib.hid hln
 have Hcl := Lib.hid hcl
 have Hsh := Lib.hid hsh
 have Hln' := Lib.hid hln'
 have Hcl' := Lib.hid hcl'
 have Hsh' := Lib.hid hsh'
 obtain ⟨sg1, gg, go, cg1, vs, eg, hgc, hvl, hS, hr⟩ := hG
 injection eg with q1 q2 q3
 subst q1 q3
 obtain ⟨sg2, gg', go', cg2, vs', eg', hgc', hvl', hS', hr'⟩ := hG'
 injection eg' with q1 q2 q3
 subst q1 q3
 have HS := Lib.hid hS
 have HV := Lib.hid hvl
 have HR := Lib.hid hr
 have HS' := Lib.hid hS'
 have HV' := Lib.hid hvl'
 have HR' := Lib.hid hr'
 have hX := (((Ext.refl w).alloc (.cells #[.slice sp P.length cp, .slice sc lc cc, .slice sm lm cm, .slice sg G.length cg] 44)).alloc (.cells #[.slice sp' P'.length cp', .slice sc' lc' cc', .slice sm' lm' cm', .slice sg' G'.length cg'] 44)).alloc (.cells #[S a, S b] 63)
 have hX := hX.alloc (.cells #[.slice none 0 0, .slice none 0 0, .slice none 0 0, .slice none 0 0] 44)
 have x0 : ((((w.alloc (.cells #[.slice sp P.length cp, .slice sc lc cc, .slice sm lm cm, .slice sg G.length cg] 44)).alloc (.cells #[.slice sp' P'.length cp', .slice sc' lc' cc', .slice sm' lm' cm', .slice sg' G'.length cg'] 44)).alloc (.cells #[S a, S b] 63)).alloc (.cells #[.slice none 0 0, .slice none 0 0, .slice none 0 0, .slice none 0 0] 44)).cell? ⟨w.heap.size, 0, none⟩ = some (.slice sp P.length cp) := by go_simp
 have x1 : ((((w.alloc (.cells #[.slice sp P.length cp, .slice sc lc cc, .slice sm lm cm, .slice sg G.length cg] 44)).alloc (.cells #[.slice sp' P'.length cp', .slice sc' lc' cc', .slice sm' lm' cm', .slice sg' G'.length cg'] 44)).alloc (.cells #[S a, S b] 63)).alloc (.cells #[.slice none 0 0, .slice none 0 0, .slice none 0 0, .slice none 0 0] 44)).cell? ⟨w.heap.size, 1, none⟩ = some (.slice sc lc cc) := by go_simp
 have x2 : ((((w.alloc (.cells #[.slice sp P.length cp, .slice sc lc cc, .slice sm lm cm, .slice sg G.length cg] 44)).alloc (.cells #[.slice sp' P'.length cp', .slice sc' lc' cc', .slice sm' lm' cm', .slice sg' G'.length cg'] 44)).alloc (.cells #[S a, S b] 63)).alloc (.cells #[.slice none 0 0, .slice none 0 0, .slice none 0 0, .slice none 0 0] 44)).cell? ⟨w.heap.size, 2, none⟩ = some (.slice sm lm cm) := by go_simp
 have x3 : ((((w.alloc (.cells #[.slice sp P.length cp, .slice sc lc cc, .slice sm lm cm, .slice sg G.length cg] 44)).alloc (.cells #[.slice sp' P'.length cp', .slice sc' lc' cc', .slice sm' lm' cm', .slice sg' G'.length cg'] 44)).alloc (.cells #[S a, S b] 63)).alloc (.cells #[.slice none 0 0, .slice none 0 0, .slice none 0 0, .slice none 0 0] 44)).cell? ⟨w.heap.size, 3, none⟩ = some (.slice sg G.length cg) := by go_simp
 have u0 : ((((w.alloc (.cells #[.slice sp P.length cp, .slice sc lc cc, .slice sm lm cm, .slice sg G.length cg] 44)).alloc (.cells #[.slice sp' P'.length cp', .slice sc' lc' cc', .slice sm' lm' cm', .slice sg' G'.length cg'] 44)).alloc (.cells #[S a, S b] 63)).alloc (.cells #[.slice none 0 0, .slice none 0 0, .slice none 0 0, .slice none 0 0] 44)).cell? ⟨w.heap.size + 1, 0, none⟩ = some (.slice sp' P'.length cp') := by go_simp
 have u1 : ((((w.alloc (.cells #[.slice sp P.length cp, .slice sc lc cc, .slice sm lm cm, .slice sg G.length cg] 44)).alloc (.cells #[.slice sp' P'.length cp', .slice sc' lc' cc', .slice sm' lm' cm', .slice sg' G'.length cg'] 44)).alloc (.cells #[S a, S b] 63)).alloc (.cells #[.slice none 0 0, .slice none 0 0, .slice none 0 0, .slice none 0 0] 44)).cell? ⟨w.heap.size + 1, 1, none⟩ = some (.slice sc' lc' cc') := by go_simp
 have u2 : ((((w.alloc (.cells #[.slice sp P.length cp, .slice sc lc cc, .slice sm lm cm, .slice sg G.length cg] 44)).alloc (.cells #[.slice sp' P'.length cp', .slice sc' lc' cc', .slice sm' lm' cm', .slice sg' G'.length cg'] 44)).alloc (.cells #[S a, S b] 63)).alloc (.cells #[.slice none 0 0, .slice none 0 0, .slice none 0 0, .slice none 0 0] 44)).cell? ⟨w.heap.size + 1, 2, none⟩ = some (.slice sm' lm' cm') := by go_simp
 have u3 : ((((w.alloc (.cells #[.slice sp P.length cp, .slice sc lc cc, .slice sm lm cm, .slice sg G.length cg] 44)).alloc (.cells #[.slice sp' P'.length cp', .slice sc' lc' cc', .slice sm' lm' cm', .slice sg' G'.length cg'] 44)).alloc (.cells #[S a, S b] 63)).alloc (.cells #[.slice none 0 0, .slice none 0 0, .slice none 0 0, .slice none 0 0] 44)).cell? ⟨w.heap.size + 1, 3, none⟩ = some (.slice sg' G'.length cg') := by go_simp
 have xa : ((((w.alloc (.cells #[.slice sp P.length cp, .slice sc lc cc, .slice sm lm cm, .slice sg G.length cg] 44)).alloc (.cells #[.slice sp' P'.length cp', .slice sc' lc' cc', .slice sm' lm' cm', .slice sg' G'.length cg'] 44)).alloc (.cells #[S a, S b] 63)).alloc (.cells #[.slice none 0 0, .slice none 0 0, .slice none 0 0, .slice none 0 0] 44)).cell? ⟨w.heap.size + 1 + 1, 0, none⟩ = some (S a) := by go_simp
 have xb : ((((w.alloc (.cells #[.slice sp P.length cp, .slice sc lc cc, .slice sm lm cm, .slice sg G.length cg] 44)).alloc (.cells #[.slice sp' P'.length cp', .slice sc' lc' cc', .slice sm' lm' cm', .slice sg' G'.length cg'] 44)).alloc (.cells #[S a, S b] 63)).alloc (.cells #[.slice none 0 0, .slice none 0 0, .slice none 0 0, .slice none 0 0] 44)).cell? ⟨w.heap.size + 1 + 1, 1, none⟩ = some (S b) := by go_simp
 have HO := own4 (((w.alloc (.cells #[.slice sp P.length cp, .slice sc lc cc, .slice sm lm cm, .slice sg G.length cg] 44)).alloc (.cells #[.slice sp' P'.length cp', .slice sc' lc' cc', .slice sm' lm' cm', .slice sg' G'.length cg'] 44)).alloc (.cells #[S a, S b] 63)) 44 (.slice none 0 0) (.slice none 0 0) (.slice none 0 0) (.slice none 0 0)
 rw [show (((w.alloc (.cells #[.slice sp P.length cp, .slice sc lc cc, .slice sm lm cm, .slice sg G.length cg] 44)).alloc (.cells #[.slice sp' P'.length cp', .slice sc' lc' cc', .slice sm' lm' cm', .slice sg' G'.length cg'] 44)).alloc (.cells #[S a, S b] 63)).heap.size = w.heap.size + 1 + 1 + 1 by simp] at HO
 have hVs : ((((w.alloc (.cells #[.slice sp P.length cp, .slice sc lc cc, .slice sm lm cm, .slice sg G.length cg] 44)).alloc (.cells #[.slice sp' P'.length cp', .slice sc' lc' cc', .slice sm' lm' cm', .slice sg' G'.length cg'] 44)).alloc (.cells #[S a, S b] 63)).alloc (.cells #[.slice none 0 0, .slice none 0 0, .slice none 0 0, .slice none 0 0] 44)).heap.size = w.heap.size + 1 + 1 + 1 + 1 := by simp
 clear hT hL hln hcl hsh hS hr hvl hln' hcl' hsh' hS' hr' hvl' h'
 go_enter Tryz.func28, Tryz.ntmps28
 go_wp2_with fail
 generalize ((((w.alloc (.cells #[.slice sp P.length cp, .slice sc lc cc, .slice sm lm cm, .slice sg G.length cg] 44)).alloc (.cells #[.slice sp' P'.length cp', .slice sc' lc' cc', .slice sm' lm' cm', .slice sg' G'.length cg'] 44)).alloc (.cells #[S a, S b] 63)).alloc (.cells #[.slice none 0 0, .slice none 0 0, .slice none 0 0, .slice none 0 0] 44)) = V at *
 have HO := Lib.hid HO
 have HVs := Lib.hid hVs
 obtain ⟨b0, hb0⟩ : ∃ b, b = w.heap.size := ⟨_, rfl⟩
 have Hb0 := Lib.hid hb0
 rw [← hb0] at x0 x1 x2 x3 u0 u1 u2 u3 xa xb HO HVs ⊢
 clear hb0 hVs
 have hix0 := fun W => ix2_a W (.slice sp P.length cp) (.slice sc lc cc) (.slice sm lm cm) (.slice sg G.length cg) (.slice sp' P'.length cp') (.slice sc' lc' cc') (.slice sm' lm' cm') (.slice sg' G'.length cg')
 have hix1 := fun W => ix2_b W (.slice sp P.length cp) (.slice sc lc cc) (.slice sm lm cm) (.slice sg G.length cg) (.slice sp' P'.length cp') (.slice sc' lc' cc') (.slice sm' lm' cm') (.slice sg' G'.length cg')
 go_loopw [17] (fun kv wr => ∃ k : Nat, k ≤ 2 ∧ kv = .int .i64 k ∧ Ext V wr) (fun kv _ => 2 - (intOf kv).toNat)
 case atStart => exact ⟨0, by omega, by go_num, Ext.refl _⟩
 case round =>
  obtain ⟨k, hk, rfl, hE1⟩ := hrel
  generalize wr = X1 at *
  have e1 := hX.trans hE1
  rcases (show k = 0 ∨ k = 1 ∨ k = 2 by omega) with rfl | rfl | rfl
  ·have eA := (Ext.refl X1).alloc (.cells #[.slice sp P.length cp, .slice sc lc cc, .slice sm lm cm, .slice sg G.length cg] 44)
   go_wp2_with fail
   refine (hck.out _ (e1.trans eA)).mono ?_
   rintro e W ⟨rfl, hE2⟩
   have e2 := hE1.trans (eA.trans hE2)
   go_wp2_with fail
   go_roundw
   case rel => exact ⟨1, by omega, by go_num, e2⟩
   case measure => simp [intOf]
  ·have eA := (Ext.refl X1).alloc (.cells #[.slice sp' P'.length cp', .slice sc' lc' cc', .slice sm' lm' cm', .slice sg' G'.length cg'] 44)
   go_wp2_with fail
   refine (hck2.out _ (e1.trans eA)).mono ?_
   rintro e W ⟨rfl, hE2⟩
   have e2 := hE1.trans (eA.trans hE2)
   go_wp2_with fail
   go_roundw
   case rel => exact ⟨2, by omega, by go_num, e2⟩
   case measure => simp [intOf]
  ·clear hix0 hix1 hck hck2
   replace HO := Lib.hid (HO.out.ext hE1)
   have HVs := Lib.hid (show b0 + 1 + 1 + 1 + 1 ≤ X1.heap.size by have := HVs.out; have := hE1.size; omega)
   replace x0 := hE1.cell x0
   replace x1 := hE1.cell x1
   replace x2 := hE1.cell x2
   replace x3 := hE1.cell x3
   replace u0 := hE1.cell u0
   replace u1 := hE1.cell u1
   replace u2 := hE1.cell u2
   replace u3 := hE1.cell u3
   replace xa := hE1.cell xa
   replace xb := hE1.cell xb
   clear hE1 hX
   go_wp2_with fail
   refine (heq.out _ e1).mono ?_
   rintro e X2 ⟨rfl, hE2⟩
   have e2 := e1.trans hE2
   replace HO := Lib.hid (HO.out.ext hE2)
   have HVs := Lib.hid (show b0 + 1 + 1 + 1 + 1 ≤ X2.heap.size by have := HVs.out; have := hE2.size; omega)
   clear heq e1
   replace x0 := hE2.cell x0
   replace x1 := hE2.cell x1
   replace x2 := hE2.cell x2
   replace x3 := hE2.cell x3
   replace u0 := hE2.cell u0
   replace u1 := hE2.cell u1
   replace u2 := hE2.cell u2
   replace u3 := hE2.cell u3
   replace xa := hE2.cell xa
   replace xb := hE2.cell xb
   clear hE2
   by_cases hpe : P = P' ∧ C = C' ∧ M = M'
   case neg =>
    have Hpe := Lib.hid hpe
    rw [decide_eq_false hpe]
    clear hpe
    obtain ⟨Hr6, He6, Hg6⟩ := set4 e2 (by have := Hb0.out; omega) HO.out (.slice none 0 0) (.slice none 0 0) (.slice none 0 0) (.slice none 0 0)
    have r0 := Hr6.cell (j := 0) (by simp)
    have r1 := Hr6.cell (j := 1) (by simp)
    have r2 := Hr6.cell (j := 2) (by simp)
    have r3 := Hr6.cell (j := 3) (by simp)
    simp only [List.getElem_cons_zero, List.getElem_cons_succ] at r0 r1 r2 r3
    have f0 := (HO.out).frozen 0
    have f1 := (HO.out).frozen 1
    have f2 := (HO.out).frozen 2
    have f3 := (HO.out).frozen 3
    have m0 := (HO.out).cell (j := 0) (by simp)
    have m1 := (HO.out).cell (j := 1) (by simp)
    have m2 := (HO.out).cell (j := 2) (by simp)
    have m3 := (HO.out).cell (j := 3) (by simp)
    simp only [List.getElem_cons_zero, List.getElem_cons_succ] at m0 m1 m2 m3
    have Hres := Lib.hid (show BldPost2 w P C M G P' C' M' G' a b (.returned (.tuple #[tuZ, .int .i64 (14)])) _ from .inl ⟨Hpe.out, rfl, He6⟩)
    clear Hr6 He6 Hg6 HO
    go_wp2_with fail
    refine bodyPost_ret (v := .tuple #[tuZ, .int .i64 (14)]) (by simp [results, Tryz.results28, go_sem, r0, r1, r2, r3]) rfl Hres.out
   rw [decide_eq_true hpe]
   obtain ⟨rfl, rfl, rfl⟩ := hpe
   go_wp2_with fail
   refine (hfc.out _ e2).mono ?_
   rintro e X3 ⟨rfl, hE3⟩
   have e3 := e2.trans hE3
   replace HO := Lib.hid (HO.out.ext hE3)
   have HVs := Lib.hid (show b0 + 1 + 1 + 1 + 1 ≤ X3.heap.size by have := HVs.out; have := hE3.size; omega)
   clear hfc e2
   replace x0 := hE3.cell x0
   replace x1 := hE3.cell x1
   replace x2 := hE3.cell x2
   replace x3 := hE3.cell x3
   replace u0 := hE3.cell u0
   replace u1 := hE3.cell u1
   replace u2 := hE3.cell u2
   replace u3 := hE3.cell u3
   replace xa := hE3.cell xa
   replace xb := hE3.cell xb
   clear hE3
   by_cases hf : frE a b = 0
   case neg =>
    have hf2 := (frE_cases a b).resolve_left hf
    have Hf := Lib.hid hf
    rw [hf2]
    clear hf hf2
    obtain ⟨Hr6, He6, Hg6⟩ := set4 e3 (by have := Hb0.out; omega) HO.out (.slice none 0 0) (.slice none 0 0) (.slice none 0 0) (.slice none 0 0)
    have r0 := Hr6.cell (j := 0) (by simp)
    have r1 := Hr6.cell (j := 1) (by simp)
    have r2 := Hr6.cell (j := 2) (by simp)
    have r3 := Hr6.cell (j := 3) (by simp)
    simp only [List.getElem_cons_zero, List.getElem_cons_succ] at r0 r1 r2 r3
    have f0 := (HO.out).frozen 0
    have f1 := (HO.out).frozen 1
    have f2 := (HO.out).frozen 2
    have f3 := (HO.out).frozen 3
    have m0 := (HO.out).cell (j := 0) (by simp)
    have m1 := (HO.out).cell (j := 1) (by simp)
    have m2 := (HO.out).cell (j := 2) (by simp)
    have m3 := (HO.out).cell (j := 3) (by simp)
    simp only [List.getElem_cons_zero, List.getElem_cons_succ] at m0 m1 m2 m3
    have Hres := Lib.hid (show BldPost2 w P C M G P C M G' a b (.returned (.tuple #[tuZ, .int .i64 (2)])) _ from .inr (.inl ⟨⟨rfl, rfl, rfl⟩, Hf.out, rfl, He6⟩))
    clear Hr6 He6 Hg6 HO
    go_wp2_with fail
    refine bodyPost_ret (v := .tuple #[tuZ, .int .i64 (2)]) (by simp [results, Tryz.results28, go_sem, r0, r1, r2, r3]) rfl Hres.out
   obtain ⟨n, d, hfo⟩ := frE_zero hf
   obtain ⟨k, hkn, hkd⟩ := frOK_rat hfo
   have hea : a = Lib.itoa k.num := by rw [hkn]; exact hfo.1
   have heb : b = Lib.itoa k.den := by rw [hkd]; exact hfo.2.1
   have hkq : NdQ 40 k := by
    have h1 := itoa_length k.num
    have h2 := itoa_length k.den
    rw [← hea] at h1
    rw [← heb] at h2
    exact ⟨by omega, by omega⟩
   have hkr : NdQ 42 (1 - k) := ((NdQ.one (E := 1) (by omega)).sub hkq).mono (by omega)
   have Hk := Lib.hid hkq
   have Hkr := Lib.hid hkr
   have Hres := Lib.hid (fun (e : Ending) W (hm : MdPost w P C M (bldG G G' k P.length) e W) => show BldPost2 w P C M G P C M G' a b e W from .inr (.inr ⟨⟨rfl, rfl, rfl⟩, hf, k, hea, heb, hm⟩))
   rw [hf]
   generalize BldPost2 w P C M G P C M G' a b = POST at *
   rw [show S a = I k.num by rw [hea]] at xa
   rw [show S b = I k.den by rw [heb]] at xb
   have hclN : ∀ l ∈ bldG G G' k P.length, l.length = P.length := fun l hl => by
    obtain ⟨l0, _, rfl⟩ := List.mem_map.1 hl
    simp
   have hgg : G'.length = G.length := by rw [Hln'.out, Hln.out]
   have hndN : ∀ l ∈ bldG G G' k P.length, ∀ r ∈ l, NdQ 400 r := fun l hl => by
    obtain ⟨l0, hl0, rfl⟩ := List.mem_map.1 hl
    have hl0 := List.mem_range.1 hl0
    refine cmb_nd (E := 30) (F := 42) (fun s hs => ?_) (fun r hr => ?_) (by omega) (by omega) (by simp)
    ·simp only [List.mem_cons, List.not_mem_nil, or_false] at hs
     rcases hs with rfl | rfl
     ·rw [List.getD_eq_getElem?_getD, List.getElem?_eq_getElem hl0]
      exact shQ_nd (Hsh.out _ (List.getElem_mem hl0)) (Nat.le_refl _)
     ·rw [List.getD_eq_getElem?_getD, List.getElem?_eq_getElem (show l0 < G'.length by omega)]
      exact shQ_nd (Hsh'.out _ (List.getElem_mem _)) (Nat.le_refl _)
    ·simp only [List.mem_cons, List.not_mem_nil, or_false] at hr
     rcases hr with rfl | rfl
     ·exact hkr
     ·exact hkq.mono (by omega)
   have Hmd := Lib.hid (fun W va vl vc (hW : Ext w W) (hv : GnR W (.slice va vl vc) (bldG G G' k P.length)) => made_any (HT.out.ext hW) hv (by rw [bldG_length]; exact Hln.out) hclN hndN (HL.out.ext hW))
   have hsb := Lib.hid (fun W (hW : Ext w W) => ratSub_any (a := 1) (b := k) ((NdQ.one (E := 1) (by omega)).smQ (by omega)) (hkq.smQ (by omega)) (HL.out.ext hW))
   rw [show RV (1 : Rat) = .agg #[.string ⟨#[49]⟩, .string ⟨#[49]⟩] by show Value.agg #[I (1 : Rat).num, I ((1 : Rat).den : Int)] = _; rw [I_one1.1, I_one1.2]] at hsb
   clear hf hfo hkn hkd hea heb hkq hkr hclN hndN
   go_wp2_with fail
   refine (hsb.out _ e3).mono ?_
   rintro e X4 ⟨rfl, hE4⟩
   have e4 := e3.trans hE4
   replace HO := Lib.hid (HO.out.ext hE4)
   have HVs := Lib.hid (show b0 + 1 + 1 + 1 + 1 ≤ X4.heap.size by have := HVs.out; have := hE4.size; omega)
   clear hsb e3
   replace x0 := hE4.cell x0
   replace x1 := hE4.cell x1
   replace x2 := hE4.cell x2
   replace x3 := hE4.cell x3
   replace u0 := hE4.cell u0
   replace u1 := hE4.cell u1
   replace u2 := hE4.cell u2
   replace u3 := hE4.cell u3
   replace xa := hE4.cell xa
   replace xb := hE4.cell xb
   clear hE4
   have HY4 := own4 (X4.alloc (.cells #[I (1 - k).num, I ((1 - k).den : Int)] 63)) 44 (.slice sp P.length cp) (.slice sc lc cc) (.slice sm lm cm) (.slice none 0 0)
   rw [show (X4.alloc (.cells #[I (1 - k).num, I ((1 - k).den : Int)] 63)).heap.size = X4.heap.size + 1 by simp] at HY4
   have eA := ((Ext.refl X4).alloc (.cells #[I (1 - k).num, I ((1 - k).den : Int)] 63)).alloc (.cells #[.slice sp P.length cp, .slice sc lc cc, .slice sm lm cm, .slice none 0 0] 44)
   have hYs : ((X4.alloc (.cells #[I (1 - k).num, I ((1 - k).den : Int)] 63)).alloc (.cells #[.slice sp P.length cp, .slice sc lc cc, .slice sm lm cm, .slice none 0 0] 44)).heap.size = X4.heap.size + 1 + 1 := by simp
   have ky0 : ((X4.alloc (.cells #[I (1 - k).num, I ((1 - k).den : Int)] 63)).alloc (.cells #[.slice sp P.length cp, .slice sc lc cc, .slice sm lm cm, .slice none 0 0] 44)).cell? ⟨X4.heap.size, 0, none⟩ = some (I (1 - k).num) := by go_simp
   have ky1 : ((X4.alloc (.cells #[I (1 - k).num, I ((1 - k).den : Int)] 63)).alloc (.cells #[.slice sp P.length cp, .slice sc lc cc, .slice sm lm cm, .slice none 0 0] 44)).cell? ⟨X4.heap.size, 1, none⟩ = some (I ((1 - k).den : Int)) := by go_simp
   have eA1 := (Ext.refl X4).alloc (.cells #[I (1 - k).num, I ((1 - k).den : Int)] 63)
   have yx0 := eA.cell x0
   have yx1 := eA.cell x1
   have yx2 := eA.cell x2
   have yx3 := eA.cell x3
   have yu0 := eA.cell u0
   have yu1 := eA.cell u1
   have yu2 := eA.cell u2
   have yu3 := eA.cell u3
   have yxa := eA.cell xa
   have yxb := eA.cell xb
   have zx0 := eA1.cell x0
   have zx1 := eA1.cell x1
   have zx2 := eA1.cell x2
   go_wp2_with fail
   clear x0 x1 x2 x3 u0 u1 u2 u3 xa xb zx0 zx1 zx2 eA1
   have x0 := yx0
   clear yx0
   have x1 := yx1
   clear yx1
   have x2 := yx2
   clear yx2
   have x3 := yx3
   clear yx3
   have u0 := yu0
   clear yu0
   have u1 := yu1
   clear yu1
   have u2 := yu2
   clear yu2
   have u3 := yu3
   clear yu3
   have xa := yxa
   clear yxa
   have xb := yxb
   clear yxb
   generalize ((X4.alloc (.cells #[I (1 - k).num, I ((1 - k).den : Int)] 63)).alloc (.cells #[.slice sp P.length cp, .slice sc lc cc, .slice sm lm cm, .slice none 0 0] 44)) = Y at *
   have HY4 := Lib.hid HY4
   have HYs := Lib.hid hYs
   obtain ⟨b4, hb4⟩ : ∃ b, b = X4.heap.size := ⟨_, rfl⟩
   have Hb4 := Lib.hid (show b0 + 1 + 1 + 1 + 1 ≤ b4 by have := HVs.out; omega)
   rw [← hb4] at HY4 HYs ky0 ky1 ⊢
   have eY := e4.trans eA
   replace HO := Lib.hid (HO.out.ext eA)
   clear hb4 hYs eA e4 HVs
   obtain ⟨b3, hb3⟩ : ∃ b, b = b4 + 1 := ⟨_, rfl⟩
   rw [← hb3] at HY4 HYs ⊢
   have Hb3 := Lib.hid hb3
   clear hb3
   go_loopw [49] (fun iv wr => ∃ (i : Nat) (gv : Value), i ≤ G.length ∧ iv = .int .i64 i ∧ Hid (OwnV 44 b3 wr b3 4 [.slice sp P.length cp, .slice sc lc cc, .slice sm lm cm, gv]) ∧ Hid (GnO (b3 + 1) wr gv ((bldG G G' k P.length).take i)) ∧ Hid (Below b3 Y wr)) (fun iv _ => G.length - (intOf iv).toNat)
   case atStart => exact ⟨0, _, by omega, by go_num, HY4, Lib.hid (GnO.nil _ _), Lib.hid (Below.refl _ _)⟩
   case round =>
    obtain ⟨i, gv, hi, rfl, HO4, HGN, HB4⟩ := hrel
    generalize wr = Z at *
    have hZs2 : b3 + 1 ≤ Z.heap.size := by have := HYs.out; have := HB4.out.size; have := Hb3.out; omega
    have HZs := Lib.hid hZs2
    have eZ := Lib.hid (show Ext w Z from Below.trans eY (HB4.out.mono (by have := Hb0.out; have := Hb4.out; have := Hb3.out; omega)))
    have HO3 := HO4.out.cell (j := 3) (by simp)
    simp only [List.getElem_cons_zero, List.getElem_cons_succ] at HO3
    clear hZs2
    have z0 := (Below.cell HB4.out (show b0 < b3 by have := Hb4.out; have := Hb3.out; omega)).trans x0
    have z3 := (Below.cell HB4.out (show b0 < b3 by have := Hb4.out; have := Hb3.out; omega)).trans x3
    have w3 := (Below.cell HB4.out (show b0 + 1 < b3 by have := Hb4.out; have := Hb3.out; omega)).trans u3
    have za := (Below.cell HB4.out (show b0 + 1 + 1 < b3 by have := Hb4.out; have := Hb3.out; omega)).trans xa
    have zb := (Below.cell HB4.out (show b0 + 1 + 1 < b3 by have := Hb4.out; have := Hb3.out; omega)).trans xb
    have zk0 := (Below.cell HB4.out (show b4 < b3 by have := Hb4.out; have := Hb3.out; omega)).trans ky0
    have zk1 := (Below.cell HB4.out (show b4 < b3 by have := Hb4.out; have := Hb3.out; omega)).trans ky1
    by_cases hlt : i < G.length
    ·have hii : (i : Int) < (G.length : Int) := by omega
     have hii' : (i : Int) < (G'.length : Int) := by rw [hgg]; omega
     have hiv : i < vs.length := by rw [HV.out]; exact hlt
     have hlt' : i < G'.length := by omega
     have hiv' : i < vs'.length := by rw [HV'.out]; exact hlt'
     obtain rfl := HS.out.addr (by omega)
     obtain rfl := HS'.out.addr (by omega)
     have c0 := eZ.out.cell (HS.out.cell i _ (List.getElem?_eq_getElem hiv))
     have c1 := eZ.out.cell (HS'.out.cell i _ (List.getElem?_eq_getElem hiv'))
     have hsz := HR.out i hlt hiv
     have hsz' := HR'.out i hlt' hiv'
     obtain ⟨xa', xc', ex⟩ := szR_slc hsz
     rw [ex, Hcl.out _ (List.getElem_mem hlt)] at c0 hsz
     obtain ⟨xb', xd', ex'⟩ := szR_slc hsz'
     rw [ex', Hcl'.out _ (List.getElem_mem hlt')] at c1 hsz'
     have Hsz := Lib.hid hsz
     have Hsz' := Lib.hid hsz'
     have hsk := Lib.hid (bldG_snoc (k := k) (n := P.length) hlt hlt')
     have Hsl := Lib.hid (Hsh.out _ (List.getElem_mem hlt))
     have Hcll := Lib.hid (Hcl.out _ (List.getElem_mem hlt))
     have Hsl' := Lib.hid (Hsh'.out _ (List.getElem_mem hlt'))
     have Hcll' := Lib.hid (Hcl'.out _ (List.getElem_mem hlt'))
     obtain ⟨l, hl⟩ : ∃ l, l = G[i] := ⟨_, rfl⟩
     obtain ⟨q, hq⟩ : ∃ l, l = G'[i] := ⟨_, rfl⟩
     rw [← hl] at Hsz hsk Hsl Hcll
     rw [← hq] at Hsz' hsk Hsl' Hcll'
     obtain ⟨ga, gc, rfl⟩ := HGN.out.slice
     have Htl := Lib.hid (show ((bldG G G' k P.length).take i).length = i by rw [List.length_take, bldG_length]; omega)
     rw [Htl.out] at HO3 HO4 HGN
     have Hcb := Lib.hid (fun W v fv (hW : Ext w W) (hv : GnR W v [l, q]) (hfv : SzR W fv [1 - k, k]) => combine_any (pa := sp) (np := P.length) (cp := cp) hv hfv (fun s hs => by
      simp only [List.mem_cons, List.not_mem_nil, or_false] at hs
      rcases hs with rfl | rfl
      ·exact Hcll.out
      ·exact Hcll'.out) (by simp) (fun s hs => by
      simp only [List.mem_cons, List.not_mem_nil, or_false] at hs
      rcases hs with rfl | rfl
      ·exact shQ_nd Hsl.out (by omega)
      ·exact shQ_nd Hsl'.out (by omega)) (fun r hr => by
      simp only [List.mem_cons, List.not_mem_nil, or_false] at hr
      rcases hr with rfl | rfl
      ·exact Hkr.out.mono (by omega)
      ·exact Hk.out.mono (by omega)) (by omega) (by simp) (HL.out.ext hW))
     have hgn := Lib.hid hgg
     clear hsz ex hl hiv hlt hsz' ex' hq hiv' hlt' hgg
     go_wp2_with fail
     have d0E : Ext Z Z.drew := (Ext.refl Z).drew
     refine wp_region_held_tail (S := fun W => Ext Z W) 21 (by kernel_rfl) (by simp) ?_
     intro inv
     generalize Z.drew = Z1 at *
     refine wpAnyLH_take (i := 0) (v := .pointer (some ⟨b3, 3, none⟩)) rfl (by kernel_rfl) (fun _ _ _ h => h) (.inl ⟨by rfl, fun W hW => by go_simp⟩) d0E inv ?_
     intro inv
     go_simp
     refine wpAnyLH_take (i := 1) (v := .slice ga i gc) rfl (by kernel_rfl) (fun _ _ _ h => h) (.inl ⟨by rfl, fun W hW => by have q0 := hW.cell HO3; go_simp⟩) d0E inv ?_
     intro inv
     go_simp
     refine wpAnyLH_take (i := 2) (v := .pointer (some ⟨b0, 0, none⟩)) rfl (by kernel_rfl) (fun _ _ _ h => h) (.inl ⟨by rfl, fun W hW => by go_simp⟩) d0E inv ?_
     intro inv
     go_simp
     refine wpAnyLH_take (i := 3) (v := .pointer (some ⟨b0, 0, none⟩)) rfl (by kernel_rfl) (fun _ _ _ h => h) (.inl ⟨by rfl, fun W hW => by go_simp⟩) d0E inv ?_
     intro inv
     go_simp
     refine wpAnyLH_take (i := 4) (v := .slice sp P.length cp) rfl (by kernel_rfl) (fun _ _ _ h => h) (.inl ⟨by rfl, fun W hW => by have q0 := hW.cell z0; go_simp⟩) d0E inv ?_
     intro inv
     go_simp
     refine wpAnyLH_take (i := 5) (v := .pointer (some ⟨b0, 3, none⟩)) rfl (by kernel_rfl) (fun _ _ _ h => h) (.inl ⟨by rfl, fun W hW => by go_simp⟩) d0E inv ?_
     intro inv
     go_simp
     refine wpAnyLH_take (i := 6) (v := .slice (some ⟨gg, go, none⟩) G.length cg) rfl (by kernel_rfl) (fun _ _ _ h => h) (.inl ⟨by rfl, fun W hW => by have q0 := hW.cell z3; go_simp⟩) d0E inv ?_
     intro inv
     go_simp
     refine wpAnyLH_take (i := 7) (v := .int .i64 i) rfl (by kernel_rfl) (fun _ _ _ h => h) (.inl ⟨by rfl, fun W hW => by go_simp⟩) d0E inv ?_
     intro inv
     go_simp
     refine wpAnyLH_take (i := 8) (v := .pointer (some ⟨gg, go + i, none⟩)) rfl (by kernel_rfl) (fun _ _ _ h => h) (.inl ⟨by rfl, fun W hW => by go_simp⟩) d0E inv ?_
     intro inv
     go_simp
     refine wpAnyLH_take (i := 9) (v := (.slice xa' P.length xc')) rfl (by kernel_rfl) (fun _ _ _ h => h) (.inl ⟨by rfl, fun W hW => by have q0 := hW.cell c0; go_simp⟩) d0E inv ?_
     intro inv
     go_simp
     refine wpAnyLH_take (i := 10) (v := .pointer (some ⟨b0 + 1, 3, none⟩)) rfl (by kernel_rfl) (fun _ _ _ h => h) (.inl ⟨by rfl, fun W hW => by go_simp⟩) d0E inv ?_
     intro inv
     go_simp
     refine wpAnyLH_take (i := 11) (v := (.slice (some ⟨gg', go', none⟩) G'.length cg')) rfl (by kernel_rfl) (fun _ _ _ h => h) (.inl ⟨by rfl, fun W hW => by have q0 := hW.cell w3; go_simp⟩) d0E inv ?_
     intro inv
     go_simp
     refine wpAnyLH_take (i := 12) (v := .int .i64 i) rfl (by kernel_rfl) (fun _ _ _ h => h) (.inl ⟨by rfl, fun W hW => by go_simp⟩) d0E inv ?_
     intro inv
     go_simp
     refine wpAnyLH_take (i := 13) (v := (.pointer (some ⟨gg', go' + i, none⟩))) rfl (by kernel_rfl) (fun _ _ _ h => h) (.inl ⟨by rfl, fun W hW => by go_simp⟩) d0E inv ?_
     intro inv
     go_simp
     refine wpAnyLH_take (i := 14) (v := (.slice xb' P.length xd')) rfl (by kernel_rfl) (fun _ _ _ h => h) (.inl ⟨by rfl, fun W hW => by have q0 := hW.cell c1; go_simp⟩) d0E inv ?_
     intro inv
     go_simp
     refine wpAnyLH_take (i := 16) (v := .agg #[I (1 - k).num, I ((1 - k).den : Int)]) rfl (by kernel_rfl) (fun _ _ _ h => h) (.inl ⟨by rfl, fun W hW => by have q0 := hW.cell zk0; have q1 := hW.cell zk1; go_simp⟩) d0E inv ?_
     intro inv
     go_simp
     refine wpAnyLH_take (i := 17) (v := .agg #[I k.num, I (k.den : Int)]) rfl (by kernel_rfl) (fun _ _ _ h => h) (.inl ⟨by rfl, fun W hW => by have q0 := hW.cell za; have q1 := hW.cell zb; go_simp⟩) d0E inv ?_
     intro inv
     go_simp
     refine wpAnyLH_twoII (i := 15) (j := 18) rfl rfl (by kernel_rfl) inv (fun inv K0 hK0 => ?_) (fun inv K0 hK0 => ?_)
     ·go_simp
      refine hK0 _ _ (d0E.alloc (.cells #[.slice xa' P.length xc', .slice xb' P.length xd'] 52)) ?_
      clear hK0
      refine wpAnyLH_oneI (i := 18) rfl (by kernel_rfl) inv (fun inv K0 hK0 => ?_)
      go_simp
      have d1E : Ext Z ((Z1.alloc (.cells #[.slice xa' P.length xc', .slice xb' P.length xd'] 52)).alloc (.cells #[I (1 - k).num, I ((1 - k).den : Int), I k.num, I (k.den : Int)] 63)) := (d0E.alloc (.cells #[.slice xa' P.length xc', .slice xb' P.length xd'] 52)).alloc (.cells #[I (1 - k).num, I ((1 - k).den : Int), I k.num, I (k.den : Int)] 63)
      have HGn := Lib.hid (show GnR ((Z1.alloc (.cells #[.slice xa' P.length xc', .slice xb' P.length xd'] 52)).alloc (.cells #[I (1 - k).num, I ((1 - k).den : Int), I k.num, I (k.den : Int)] 63)) (.slice (some ⟨Z1.heap.size, 0, none⟩) 2 2) [l, q] from gn2N (by go_simp) (by go_simp) (Hsz.out.ext (eZ.out.trans d1E)) (Hsz'.out.ext (eZ.out.trans d1E)))
      have HSz := Lib.hid (show SzR ((Z1.alloc (.cells #[.slice xa' P.length xc', .slice xb' P.length xd'] 52)).alloc (.cells #[I (1 - k).num, I ((1 - k).den : Int), I k.num, I (k.den : Int)] 63)) (.slice (some ⟨Z1.heap.size + 1, 0, none⟩) 2 2) [1 - k, k] from sz2M (by go_simp) (by go_simp) (by go_simp) (by go_simp))
      refine hK0 _ _ d1E ?_
      clear hK0
      generalize hW2 : World.alloc (World.alloc Z1 _) _ = W2 at *
      clear hW2
      refine wpAnyLH_oneI (i := 19) rfl (by kernel_rfl) inv (fun inv K0 hK0 => ?_)
      go_simp
      refine (Hcb.out _ _ _ (eZ.out.trans d1E) HGn.out HSz.out).mono ?_
      rintro e Z3 ⟨⟨gq, rfl, _, hO⟩, hE3⟩
      have d2E := d1E.trans hE3
      have Hv := Lib.hid (show SzV (b3 + 1) Z3 (slv gq P.length P.length) (cmbQ [l, q] [1 - k, k] P.length) by
       have := hO.val
       rw [cmbQ_length] at this
       exact this.mono (by have := d1E.size; have := HZs.out; omega))
      refine hK0 _ _ d2E ?_
      clear hK0 hO
      refine wpAnyLH_oneI (i := 20) rfl (by kernel_rfl) inv (fun inv K0 hK0 => ?_)
      go_simp
      have d3E := d2E.alloc (.cells #[slv gq P.length P.length] 52)
      refine hK0 _ _ d3E ?_
      clear hK0
      refine wpAnyLH_end (by kernel_rfl) ?_
      have HG3 := Lib.hid (HGN.out.ext d3E)
      have HV3 := Lib.hid (Hv.out.ext ((Ext.refl _).alloc (.cells #[slv gq P.length P.length] 52)))
      have h39 : (Z3.alloc (.cells #[slv gq P.length P.length] 52)).cell? ⟨Z3.heap.size, 0, none⟩ = some (slv gq P.length P.length) := by go_simp
      have h3s : b3 + 1 ≤ (Z3.alloc (.cells #[slv gq P.length P.length] 52)).heap.size := by have := d3E.size; have := HZs.out; omega
      have HO3w := Lib.hid (HO4.out.ext d3E)
      have HB3 := Lib.hid (show Below b3 Y (Z3.alloc (.cells #[slv gq P.length P.length] 52)) from HB4.out.trans (Below.mono d3E (by have := HZs.out; omega)))
      clear hE3 inv d0E d1E d2E d3E Hv HGn HSz Hcb HO3 z0 z3 w3 za zb zk0 zk1 c0 c1 HO4 HGN HB4
      go_wp2_with (at_builtin; (refine app_gn rfl _ _ 42 Tryz.underlying42 rfl rfl HG3.out (b := Z3.heap.size) rfl h39 HV3.out (by rw [Htl.out]; omega) h3s ?_; intro g9 c9 W9 hO9 hB9 hG9; rw [hsk.out, Htl.out] at hO9; rw [Htl.out]; have HO9 := Lib.hid hO9; have d9 := hB9; obtain ⟨HOw, HOx⟩ : Hid (OwnV 44 b3 W9 b3 4 [.slice sp P.length cp, .slice sc lc cc, .slice sm lm cm, .slice ga i gc]) ∧ True := ⟨Lib.hid (HO3w.out.below d9 (by omega)), trivial⟩; have HBw := Lib.hid (show Below b3 Y W9 from HB3.out.trans (Below.mono d9 (by omega))); have e0 := HOw.out.cell (j := 3) (by simp); simp only [List.getElem_cons_zero, List.getElem_cons_succ] at e0; have f0 := HOw.out.frozen 3; clear hO9 hB9 hG9 HOx d9))
      obtain ⟨h4, g4⟩ := OwnV.set HOw.out 3 (slv g9 (i + 1) c9)
      have H4 := Lib.hid h4
      have G4 := Lib.hid (GnO.kept HO9.out g4 (by omega))
      have B4 := Lib.hid (Below.grown HBw.out g4 (by have := HBw.out.size; have := HYs.out; have := Hb3.out; omega) (fun q hq => by injection hq with hq; omega))
      clear h4 g4
      go_roundw
      case rel => exact ⟨i + 1, _, by omega, by go_num, H4, G4, B4⟩
      case measure => simp [intOf] <;> omega
     ·go_simp
      refine hK0 _ _ (d0E.alloc (.cells #[I (1 - k).num, I ((1 - k).den : Int), I k.num, I (k.den : Int)] 63)) ?_
      clear hK0
      refine wpAnyLH_oneI (i := 15) rfl (by kernel_rfl) inv (fun inv K0 hK0 => ?_)
      go_simp
      have d1E : Ext Z ((Z1.alloc (.cells #[I (1 - k).num, I ((1 - k).den : Int), I k.num, I (k.den : Int)] 63)).alloc (.cells #[.slice xa' P.length xc', .slice xb' P.length xd'] 52)) := (d0E.alloc (.cells #[I (1 - k).num, I ((1 - k).den : Int), I k.num, I (k.den : Int)] 63)).alloc (.cells #[.slice xa' P.length xc', .slice xb' P.length xd'] 52)
      have HGn := Lib.hid (show GnR ((Z1.alloc (.cells #[I (1 - k).num, I ((1 - k).den : Int), I k.num, I (k.den : Int)] 63)).alloc (.cells #[.slice xa' P.length xc', .slice xb' P.length xd'] 52)) (.slice (some ⟨Z1.heap.size + 1, 0, none⟩) 2 2) [l, q] from gn2N (by go_simp) (by go_simp) (Hsz.out.ext (eZ.out.trans d1E)) (Hsz'.out.ext (eZ.out.trans d1E)))
      have HSz := Lib.hid (show SzR ((Z1.alloc (.cells #[I (1 - k).num, I ((1 - k).den : Int), I k.num, I (k.den : Int)] 63)).alloc (.cells #[.slice xa' P.length xc', .slice xb' P.length xd'] 52)) (.slice (some ⟨Z1.heap.size, 0, none⟩) 2 2) [1 - k, k] from sz2M (by go_simp) (by go_simp) (by go_simp) (by go_simp))
      refine hK0 _ _ d1E ?_
      clear hK0
      generalize hW2 : World.alloc (World.alloc Z1 _) _ = W2 at *
      clear hW2
      refine wpAnyLH_oneI (i := 19) rfl (by kernel_rfl) inv (fun inv K0 hK0 => ?_)
      go_simp
      refine (Hcb.out _ _ _ (eZ.out.trans d1E) HGn.out HSz.out).mono ?_
      rintro e Z3 ⟨⟨gq, rfl, _, hO⟩, hE3⟩
      have d2E := d1E.trans hE3
      have Hv := Lib.hid (show SzV (b3 + 1) Z3 (slv gq P.length P.length) (cmbQ [l, q] [1 - k, k] P.length) by
       have := hO.val
       rw [cmbQ_length] at this
       exact this.mono (by have := d1E.size; have := HZs.out; omega))
      refine hK0 _ _ d2E ?_
      clear hK0 hO
      refine wpAnyLH_oneI (i := 20) rfl (by kernel_rfl) inv (fun inv K0 hK0 => ?_)
      go_simp
      have d3E := d2E.alloc (.cells #[slv gq P.length P.length] 52)
      refine hK0 _ _ d3E ?_
      clear hK0
      refine wpAnyLH_end (by kernel_rfl) ?_
      have HG3 := Lib.hid (HGN.out.ext d3E)
      have HV3 := Lib.hid (Hv.out.ext ((Ext.refl _).alloc (.cells #[slv gq P.length P.length] 52)))
      have h39 : (Z3.alloc (.cells #[slv gq P.length P.length] 52)).cell? ⟨Z3.heap.size, 0, none⟩ = some (slv gq P.length P.length) := by go_simp
      have h3s : b3 + 1 ≤ (Z3.alloc (.cells #[slv gq P.length P.length] 52)).heap.size := by have := d3E.size; have := HZs.out; omega
      have HO3w := Lib.hid (HO4.out.ext d3E)
      have HB3 := Lib.hid (show Below b3 Y (Z3.alloc (.cells #[slv gq P.length P.length] 52)) from HB4.out.trans (Below.mono d3E (by have := HZs.out; omega)))
      clear hE3 inv d0E d1E d2E d3E Hv HGn HSz Hcb HO3 z0 z3 w3 za zb zk0 zk1 c0 c1 HO4 HGN HB4
      go_wp2_with (at_builtin; (refine app_gn rfl _ _ 42 Tryz.underlying42 rfl rfl HG3.out (b := Z3.heap.size) rfl h39 HV3.out (by rw [Htl.out]; omega) h3s ?_; intro g9 c9 W9 hO9 hB9 hG9; rw [hsk.out, Htl.out] at hO9; rw [Htl.out]; have HO9 := Lib.hid hO9; have d9 := hB9; obtain ⟨HOw, HOx⟩ : Hid (OwnV 44 b3 W9 b3 4 [.slice sp P.length cp, .slice sc lc cc, .slice sm lm cm, .slice ga i gc]) ∧ True := ⟨Lib.hid (HO3w.out.below d9 (by omega)), trivial⟩; have HBw := Lib.hid (show Below b3 Y W9 from HB3.out.trans (Below.mono d9 (by omega))); have e0 := HOw.out.cell (j := 3) (by simp); simp only [List.getElem_cons_zero, List.getElem_cons_succ] at e0; have f0 := HOw.out.frozen 3; clear hO9 hB9 hG9 HOx d9))
      obtain ⟨h4, g4⟩ := OwnV.set HOw.out 3 (slv g9 (i + 1) c9)
      have H4 := Lib.hid h4
      have G4 := Lib.hid (GnO.kept HO9.out g4 (by omega))
      have B4 := Lib.hid (Below.grown HBw.out g4 (by have := HBw.out.size; have := HYs.out; have := Hb3.out; omega) (fun q hq => by injection hq with hq; omega))
      clear h4 g4
      go_roundw
      case rel => exact ⟨i + 1, _, by omega, by go_num, H4, G4, B4⟩
      case measure => simp [intOf] <;> omega
    ·obtain rfl : i = G.length := by omega
     have hii : ¬ (G.length : Int) < (G.length : Int) := by omega
     have o0 := HO4.out.cell (j := 0) (by simp)
     have o1 := HO4.out.cell (j := 1) (by simp)
     have o2 := HO4.out.cell (j := 2) (by simp)
     have o3 := HO3
     simp only [List.getElem_cons_zero, List.getElem_cons_succ] at o0 o1 o2
     have HOZ := Lib.hid (HO.out.below HB4.out (by have := Hb4.out; have := Hb3.out; omega))
     obtain ⟨ga, gc, rfl⟩ := HGN.out.slice
     have Htl := Lib.hid (show ((bldG G G' k P.length).take G.length) = bldG G G' k P.length by rw [List.take_of_length_le (by simp)])
     rw [Htl.out] at HGN o3
     rw [bldG_length] at o3
     have hm := Lib.hid (Hmd.out Z _ _ _ eZ.out HGN.out.read)
     rw [bldG_length] at hm
     clear HO3 Hmd hlt HO4 HB4 z0 z3 w3 za zb zk0 zk1 hgg
     go_wp2_with fail
     refine hm.out.mono ?_
     rintro e Z3 ⟨hE3, (⟨hall, t, rfl, hTR⟩ | ⟨hno, rfl⟩)⟩
     ·obtain ⟨tsp, tcp, tsc, tlc, tcc, tsm, tlm, tcm, tsg, tlg, tcg, rfl, hTV⟩ := hTR
      have e3 := eZ.out.trans hE3
      have H2 := HOZ.out.ext hE3
      obtain ⟨Hr6, He6, Hg6⟩ := set4 e3 (by have := Hb0.out; omega) H2 (.slice tsp P.length tcp) (.slice tsc tlc tcc) (.slice tsm tlm tcm) (.slice tsg tlg tcg)
      have r0 := Hr6.cell (j := 0) (by simp)
      have r1 := Hr6.cell (j := 1) (by simp)
      have r2 := Hr6.cell (j := 2) (by simp)
      have r3 := Hr6.cell (j := 3) (by simp)
      simp only [List.getElem_cons_zero, List.getElem_cons_succ] at r0 r1 r2 r3
      have f0 := (H2).frozen 0
      have f1 := (H2).frozen 1
      have f2 := (H2).frozen 2
      have f3 := (H2).frozen 3
      have m0 := (H2).cell (j := 0) (by simp)
      have m1 := (H2).cell (j := 1) (by simp)
      have m2 := (H2).cell (j := 2) (by simp)
      have m3 := (H2).cell (j := 3) (by simp)
      simp only [List.getElem_cons_zero, List.getElem_cons_succ] at m0 m1 m2 m3
      have Hres2 := Lib.hid (Hres.out (.returned (.tuple #[tuS P tsp tcp tsc tlc tcc tsm tlm tcm tsg tlg tcg, .int .i64 0])) _ ⟨He6, .inl ⟨hall, _, rfl, _, _, _, _, _, _, _, _, _, _, _, rfl, tuV_keep hTV H2 Hg6⟩⟩)
      clear Hr6 He6 Hg6 H2 HOZ hTV Hres
      replace Hres := Hres2
      clear Hres2
      go_wp2_with fail
      refine bodyPost_ret (v := .tuple #[tuS P tsp tcp tsc tlc tcc tsm tlm tcm tsg tlg tcg, .int .i64 0]) (by simp [results, Tryz.results28, go_sem, r0, r1, r2, r3]) rfl Hres.out
     ·have e3 := eZ.out.trans hE3
      have H2 := HOZ.out.ext hE3
      obtain ⟨Hr6, He6, Hg6⟩ := set4 e3 (by have := Hb0.out; omega) H2 (.slice none 0 0) (.slice none 0 0) (.slice none 0 0) (.slice none 0 0)
      have r0 := Hr6.cell (j := 0) (by simp)
      have r1 := Hr6.cell (j := 1) (by simp)
      have r2 := Hr6.cell (j := 2) (by simp)
      have r3 := Hr6.cell (j := 3) (by simp)
      simp only [List.getElem_cons_zero, List.getElem_cons_succ] at r0 r1 r2 r3
      have f0 := (H2).frozen 0
      have f1 := (H2).frozen 1
      have f2 := (H2).frozen 2
      have f3 := (H2).frozen 3
      have m0 := (H2).cell (j := 0) (by simp)
      have m1 := (H2).cell (j := 1) (by simp)
      have m2 := (H2).cell (j := 2) (by simp)
      have m3 := (H2).cell (j := 3) (by simp)
      simp only [List.getElem_cons_zero, List.getElem_cons_succ] at m0 m1 m2 m3
      have Hres2 := Lib.hid (Hres.out (.returned (.tuple #[tuZ, .int .i64 4])) _ ⟨He6, .inr ⟨hno, rfl⟩⟩)
      clear Hr6 He6 Hg6 H2 HOZ Hres
      replace Hres := Hres2
      clear Hres2
      go_wp2_with fail
      refine bodyPost_ret (v := .tuple #[tuZ, .int .i64 4]) (by simp [results, Tryz.results28, go_sem, r0, r1, r2, r3]) rfl Hres.out
end Go.Proofs.YtedlgnoiojcjaaaGreatDoor
