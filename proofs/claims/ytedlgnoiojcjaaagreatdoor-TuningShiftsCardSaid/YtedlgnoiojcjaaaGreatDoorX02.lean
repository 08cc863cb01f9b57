/- Part 2, beside the shared parts, of the proof of the claim: contracts and plain laws; no condition. -/
import Derived.Test.YtedlgnoiojcjaaaGreatDoorX01
set_option maxRecDepth 100000
namespace Go.Proofs.YtedlgnoiojcjaaaGreatDoor
open Go.RowKit Go.Sort
def shfG (G : List (List Rat)) (q : List Rat) (at' : Int) (n : Nat) : List (List Rat) := (List.range G.length).map fun i => cmbQ [G.getD i [], q] [1, if (i : Int) = at' then 1 else 0] n
@[simp] theorem shfG_length (G : List (List Rat)) (q : List Rat) (t : Int) (n : Nat) : (shfG G q t n).length = G.length := by simp [shfG]
theorem shfG_snoc {G : List (List Rat)} {q : List Rat} {t : Int} {n i : Nat} (h : i < G.length) : (shfG G q t n).take i ++ [cmbQ [G[i], q] [1, if (i : Int) = t then 1 else 0] n] = (shfG G q t n).take (i + 1) := by
 have h2 : i < (shfG G q t n).length := by simpa using h
 rw [List.take_succ_eq_append_getElem h2]
 congr 2
 simp [shfG, h]
def ShfPost (w : World) (P : List Int) (C M : Mx) (G : List (List Rat)) (t : Int) (L : List (List UInt8 × List UInt8)) (e : Ending) (w' : World) : Prop :=
 ((t < 0 ∨ (G.length : Int) ≤ t) ∧ e = .returned (.tuple #[tuZ, .int .i64 3]) ∧ Ext w w') ∨ (0 ≤ t ∧ t < (G.length : Int) ∧ szEA P.length L ≠ 0 ∧ e = .returned (.tuple #[tuZ, .int .i64 (szEA P.length L)]) ∧ Ext w w') ∨ (0 ≤ t ∧ t < (G.length : Int) ∧ szEA P.length L = 0 ∧ ∃ q : List Rat, L = txQ q ∧ q.length = P.length ∧ ShQ q ∧ MdPost w P C M (shfG G q t P.length) e w')
theorem sz2M {W : World} {b : Nat} {r0 r1 : Rat} (h0 : W.cell? ⟨b, 0, none⟩ = some (I r0.num)) (h1 : W.cell? ⟨b, 1, none⟩ = some (I r0.den)) (h2 : W.cell? ⟨b, 2, none⟩ = some (I r1.num)) (h3 : W.cell? ⟨b, 3, none⟩ = some (I r1.den)) : SzR W (.slice (some ⟨b, 0, none⟩) 2 2) [r0, r1] := by
 refine ⟨_, b, 0, 2, rfl, Nat.le_refl _, fun _ => rfl, fun i hi => ?_⟩
 have hi3 : i < 2 := hi
 rcases (show i = 0 ∨ i = 1 by omega) with rfl | rfl
 ·exact ⟨h0, h1⟩
 ·exact ⟨h2, h3⟩
theorem szc_slice {w : World} {v : Value} {L : List (List UInt8 × List UInt8)} (h : SzT w v L) : ∃ a c, v = .slice a L.length c := by
 obtain ⟨a, _, _, c, e, _⟩ := h
 exact ⟨a, c, e⟩
set_option maxHeartbeats 8000000 in
theorem tuShift_any {w : World} {P : List Int} {C M : Mx} {G : List (List Rat)} {sp : Option Addr} {cp : Nat} {sc : Option Addr} {lc cc : Nat} {sm : Option Addr} {lm cm : Nat} {sg : Option Addr} {lg cg : Nat} {t : Int} {sv : Value} {L : List (List UInt8 × List UInt8)} (h : TuV w P C M G sp cp sc lc cc sm lm cm sg lg cg) (hs : SzT w sv L) (hb : ∀ p ∈ L, p.1.length ≤ 1000000 ∧ p.2.length ≤ 1000000) (hL : Laid w) :
  Calls Tryz.prog 21 #[tuS P sp cp sc lc cc sm lm cm sg lg cg, .int .i64 t, sv] w (ShfPost w P C M G t L) := by
 have hck := Lib.hid (fun W (hW : Ext w W) => tuCheck_any (h.ext hW) (hL.ext hW))
 obtain ⟨sva, svc, rfl⟩ := szc_slice hs
 obtain ⟨hT, hG, hln, hcl, hsh⟩ := h
 have hp4 := hT.ok.p4
 have hm4 := hT.m4
 have hlg := hG.len
 have hg4 : G.length ≤ 4 := by omega
 subst hlg
 have hpc := hT.pchk
 have hsc := Lib.hid (fun W (hW : Ext w W) => szCheck_txt (pa := sp) (np := P.length) (cp := cp) (fun W2 h2 => hpc W2 (hW.trans h2)) (hs.ext hW) hb (by omega) (hL.ext hW))
 have HT := Lib.hid hT
 have HG := Lib.hid hG
 have HL := Lib.hid hL
 have Hln := Lib.hid hln
 have Hcl := Lib.hid hcl
 have Hsh := Lib.hid hsh
 have Hst := Lib.hid hs
 obtain ⟨sg', gg, go, cg', vs, eg, hgc, hvl, hS, hr⟩ := hG
 injection eg with q1 q2 q3
 subst q1 q3
 have HS := Lib.hid hS
 have HV := Lib.hid hvl
 have HR := Lib.hid hr
 have hX0 := ((Ext.refl w).alloc (.cells #[.slice sp P.length cp, .slice sc lc cc, .slice sm lm cm, .slice sg G.length cg] 44))
 have hX := hX0.alloc (.cells #[.slice none 0 0, .slice none 0 0, .slice none 0 0, .slice none 0 0] 44)
 have x0 : ((w.alloc (.cells #[.slice sp P.length cp, .slice sc lc cc, .slice sm lm cm, .slice sg G.length cg] 44)).alloc (.cells #[.slice none 0 0, .slice none 0 0, .slice none 0 0, .slice none 0 0] 44)).cell? ⟨w.heap.size, 0, none⟩ = some (.slice sp P.length cp) := by go_simp
 have x1 : ((w.alloc (.cells #[.slice sp P.length cp, .slice sc lc cc, .slice sm lm cm, .slice sg G.length cg] 44)).alloc (.cells #[.slice none 0 0, .slice none 0 0, .slice none 0 0, .slice none 0 0] 44)).cell? ⟨w.heap.size, 1, none⟩ = some (.slice sc lc cc) := by go_simp
 have x2 : ((w.alloc (.cells #[.slice sp P.length cp, .slice sc lc cc, .slice sm lm cm, .slice sg G.length cg] 44)).alloc (.cells #[.slice none 0 0, .slice none 0 0, .slice none 0 0, .slice none 0 0] 44)).cell? ⟨w.heap.size, 2, none⟩ = some (.slice sm lm cm) := by go_simp
 have x3 : ((w.alloc (.cells #[.slice sp P.length cp, .slice sc lc cc, .slice sm lm cm, .slice sg G.length cg] 44)).alloc (.cells #[.slice none 0 0, .slice none 0 0, .slice none 0 0, .slice none 0 0] 44)).cell? ⟨w.heap.size, 3, none⟩ = some (.slice sg G.length cg) := by go_simp
 have HO := own4 (w.alloc (.cells #[.slice sp P.length cp, .slice sc lc cc, .slice sm lm cm, .slice sg G.length cg] 44)) 44 (.slice none 0 0) (.slice none 0 0) (.slice none 0 0) (.slice none 0 0)
 rw [show (w.alloc (.cells #[.slice sp P.length cp, .slice sc lc cc, .slice sm lm cm, .slice sg G.length cg] 44)).heap.size = w.heap.size + 1 by simp] at HO
 have hVs : ((w.alloc (.cells #[.slice sp P.length cp, .slice sc lc cc, .slice sm lm cm, .slice sg G.length cg] 44)).alloc (.cells #[.slice none 0 0, .slice none 0 0, .slice none 0 0, .slice none 0 0] 44)).heap.size = w.heap.size + 1 + 1 := by simp
 clear hT hL hln hcl hsh hX0 hS hr hvl hpc hs hb
 go_enter Tryz.func21, Tryz.ntmps21
 go_wp2_with fail
 generalize ((w.alloc (.cells #[.slice sp P.length cp, .slice sc lc cc, .slice sm lm cm, .slice sg G.length cg] 44)).alloc (.cells #[.slice none 0 0, .slice none 0 0, .slice none 0 0, .slice none 0 0] 44)) = V at *
 have HO := Lib.hid HO
 have HVs := Lib.hid hVs
 obtain ⟨b0, hb0⟩ : ∃ b, b = w.heap.size := ⟨_, rfl⟩
 have Hb0 := Lib.hid hb0
 rw [← hb0] at x0 x1 x2 x3 HO HVs ⊢
 clear hb0 hVs
 refine (hck.out _ hX).mono ?_
 rintro e X1 ⟨rfl, hE1⟩
 have e1 := hX.trans hE1
 replace HO := Lib.hid (HO.out.ext hE1)
 have HVs := Lib.hid (show b0 + 1 + 1 ≤ X1.heap.size by have := HVs.out; have := hE1.size; omega)
 clear hck hX
 replace x0 := hE1.cell x0
 replace x1 := hE1.cell x1
 replace x2 := hE1.cell x2
 replace x3 := hE1.cell x3
 clear hE1
 have Hlt0 := Lib.hid (show ∀ (p : Prop), p → p from fun p h => h)
 by_cases ht0 : t < 0
 case pos =>
  have Hq := Lib.hid (show t < 0 ∨ (G.length : Int) ≤ t from .inl ht0)
  obtain ⟨Hr6, He6, Hg6⟩ := set4 e1 (by have := Hb0.out; omega) HO.out (.slice none 0 0) (.slice none 0 0) (.slice none 0 0) (.slice none 0 0)
  have r0 := Hr6.cell (j := 0) (by simp)
  have r1 := Hr6.cell (j := 1) (by simp)
  have r2 := Hr6.cell (j := 2) (by simp)
  have r3 := Hr6.cell (j := 3) (by simp)
  simp only [List.getElem_cons_zero, List.getElem_cons_succ] at r0 r1 r2 r3
  have f0 := (HO.out).frozen 0
  have f1 := (HO.out).frozen 1
  have f2 := (HO.out).frozen 2
  have f3 := (HO.out).frozen 3
  have m0 := (HO.out).cell (j := 0) (by simp)
  have m1 := (HO.out).cell (j := 1) (by simp)
  have m2 := (HO.out).cell (j := 2) (by simp)
  have m3 := (HO.out).cell (j := 3) (by simp)
  simp only [List.getElem_cons_zero, List.getElem_cons_succ] at m0 m1 m2 m3
  have Hres := Lib.hid (show ShfPost w P C M G t L (.returned (.tuple #[tuZ, .int .i64 (3)])) _ from .inl ⟨Hq.out, rfl, He6⟩)
  clear Hr6 He6 Hg6 HO
  go_wp2_with fail
  refine bodyPost_ret (v := .tuple #[tuZ, .int .i64 3]) (by simp [results, Tryz.results21, go_sem, r0, r1, r2, r3]) rfl Hres.out
 by_cases htg : (G.length : Int) ≤ t
 case pos =>
  have Hq := Lib.hid (show t < 0 ∨ (G.length : Int) ≤ t from .inr htg)
  obtain ⟨Hr6, He6, Hg6⟩ := set4 e1 (by have := Hb0.out; omega) HO.out (.slice none 0 0) (.slice none 0 0) (.slice none 0 0) (.slice none 0 0)
  have r0 := Hr6.cell (j := 0) (by simp)
  have r1 := Hr6.cell (j := 1) (by simp)
  have r2 := Hr6.cell (j := 2) (by simp)
  have r3 := Hr6.cell (j := 3) (by simp)
  simp only [List.getElem_cons_zero, List.getElem_cons_succ] at r0 r1 r2 r3
  have f0 := (HO.out).frozen 0
  have f1 := (HO.out).frozen 1
  have f2 := (HO.out).frozen 2
  have f3 := (HO.out).frozen 3
  have m0 := (HO.out).cell (j := 0) (by simp)
  have m1 := (HO.out).cell (j := 1) (by simp)
  have m2 := (HO.out).cell (j := 2) (by simp)
  have m3 := (HO.out).cell (j := 3) (by simp)
  simp only [List.getElem_cons_zero, List.getElem_cons_succ] at m0 m1 m2 m3
  have Hres := Lib.hid (show ShfPost w P C M G t L (.returned (.tuple #[tuZ, .int .i64 (3)])) _ from .inl ⟨Hq.out, rfl, He6⟩)
  clear Hr6 He6 Hg6 HO
  go_wp2_with fail
  refine bodyPost_ret (v := .tuple #[tuZ, .int .i64 3]) (by simp [results, Tryz.results21, go_sem, r0, r1, r2, r3]) rfl Hres.out
 go_wp2_with fail
 refine (hsc.out _ e1).mono ?_
 rintro e X2 ⟨rfl, hE2⟩
 have e2 := e1.trans hE2
 replace HO := Lib.hid (HO.out.ext hE2)
 have HVs := Lib.hid (show b0 + 1 + 1 ≤ X2.heap.size by have := HVs.out; have := hE2.size; omega)
 clear hsc e1
 replace x0 := hE2.cell x0
 replace x1 := hE2.cell x1
 replace x2 := hE2.cell x2
 replace x3 := hE2.cell x3
 clear hE2
 have Ht0 := Lib.hid (show 0 ≤ t by omega)
 have Htg := Lib.hid (show t < (G.length : Int) by omega)
 by_cases hf : szEA P.length L = 0
 case neg =>
  have Hf := Lib.hid hf
  obtain ⟨z, hz⟩ : ∃ z, z = szEA P.length L := ⟨_, rfl⟩
  have Hz := Lib.hid hz
  rw [← hz] at hf ⊢
  have h2 : (z == 0) = false := beq_eq_false_iff_ne.2 hf
  have h3 : (z != 0) = true := by simp [bne, h2]
  clear hz hf ht0 htg
  obtain ⟨Hr6, He6, Hg6⟩ := set4 e2 (by have := Hb0.out; omega) HO.out (.slice none 0 0) (.slice none 0 0) (.slice none 0 0) (.slice none 0 0)
  have r0 := Hr6.cell (j := 0) (by simp)
  have r1 := Hr6.cell (j := 1) (by simp)
  have r2 := Hr6.cell (j := 2) (by simp)
  have r3 := Hr6.cell (j := 3) (by simp)
  simp only [List.getElem_cons_zero, List.getElem_cons_succ] at r0 r1 r2 r3
  have f0 := (HO.out).frozen 0
  have f1 := (HO.out).frozen 1
  have f2 := (HO.out).frozen 2
  have f3 := (HO.out).frozen 3
  have m0 := (HO.out).cell (j := 0) (by simp)
  have m1 := (HO.out).cell (j := 1) (by simp)
  have m2 := (HO.out).cell (j := 2) (by simp)
  have m3 := (HO.out).cell (j := 3) (by simp)
  simp only [List.getElem_cons_zero, List.getElem_cons_succ] at m0 m1 m2 m3
  have Hres := Lib.hid (show ShfPost w P C M G t L (.returned (.tuple #[tuZ, .int .i64 (z)])) _ from .inr (.inl ⟨Ht0.out, Htg.out, Hf.out, by rw [Hz.out], He6⟩))
  clear Hr6 He6 Hg6 HO
  go_wp2_with fail
  refine bodyPost_ret (v := .tuple #[tuZ, .int .i64 z]) (by simp [results, Tryz.results21, go_sem, r0, r1, r2, r3]) rfl Hres.out
 rw [hf]
 obtain ⟨q, hLq, hqs⟩ : ∃ q, L = txQ q ∧ ShQ q := szTE_zero (by unfold szEA at hf; split at hf; exact hf; cases hf)
 have hql : q.length = P.length := by
  have : L.length = P.length := by
   unfold szEA at hf
   split at hf
   ·assumption
   ·cases hf
  rw [hLq] at this
  simpa [txQ] using this
 have Hqs := Lib.hid hqs
 have Hql := Lib.hid hql
 have hsr := Hst.out
 rw [show (.slice sva L.length svc : Value) = .slice sva P.length svc by rw [hLq]; simp [txQ, hql]] at hsr ⊢
 rw [hLq] at hsr
 have Hsr := Lib.hid hsr.rat
 have Hres := Lib.hid (fun (e : Ending) W (hm : MdPost w P C M (shfG G q t P.length) e W) => show ShfPost w P C M G t L e W from .inr (.inr ⟨Ht0.out, Htg.out, hf, q, hLq, hql, hqs, hm⟩))
 generalize ShfPost w P C M G t L = POST at *
 have hclN : ∀ l ∈ shfG G q t P.length, l.length = P.length := fun l hl => by
  obtain ⟨l0, _, rfl⟩ := List.mem_map.1 hl
  simp
 have hq30 : ∀ s ∈ [(1 : Rat), 0], NdQ 1 s := fun s hs => by
  simp only [List.mem_cons, List.not_mem_nil, or_false] at hs
  rcases hs with rfl | rfl
  ·exact NdQ.one (by omega)
  ·exact NdQ.zero (by omega)
 have hndN : ∀ l ∈ shfG G q t P.length, ∀ r ∈ l, NdQ 400 r := fun l hl => by
  obtain ⟨l0, hl0, rfl⟩ := List.mem_map.1 hl
  have hl0 := List.mem_range.1 hl0
  refine cmb_nd (E := 30) (F := 1) (fun s hs => ?_) (fun r hr => ?_) (by omega) (by omega) (by simp)
  ·simp only [List.mem_cons, List.not_mem_nil, or_false] at hs
   rcases hs with rfl | rfl
   ·rw [List.getD_eq_getElem?_getD, List.getElem?_eq_getElem hl0]
    exact shQ_nd (Hsh.out _ (List.getElem_mem hl0)) (Nat.le_refl _)
   ·exact shQ_nd hqs (Nat.le_refl _)
  ·simp only [List.mem_cons, List.not_mem_nil, or_false] at hr
   rcases hr with rfl | rfl
   ·exact NdQ.one (by omega)
   ·split
    ·exact NdQ.one (by omega)
    ·exact NdQ.zero (by omega)
 have Hmd := Lib.hid (fun W va vl vc (hW : Ext w W) (hv : GnR W (.slice va vl vc) (shfG G q t P.length)) => made_any (HT.out.ext hW) hv (by rw [shfG_length]; exact Hln.out) hclN hndN (HL.out.ext hW))
 clear hf hLq hqs hql hsr hclN hndN hq30 Hst
 have HY4 := own4 X2 44 (.slice sp P.length cp) (.slice sc lc cc) (.slice sm lm cm) (.slice none 0 0)
 have eA := (Ext.refl X2).alloc (.cells #[.slice sp P.length cp, .slice sc lc cc, .slice sm lm cm, .slice none 0 0] 44)
 have hYs : (X2.alloc (.cells #[.slice sp P.length cp, .slice sc lc cc, .slice sm lm cm, .slice none 0 0] 44)).heap.size = X2.heap.size + 1 := by simp
 have yx0 := eA.cell x0
 have yx1 := eA.cell x1
 have yx2 := eA.cell x2
 have yx3 := eA.cell x3
 go_wp2_with fail
 clear x0 x1 x2 x3
 have x0 := yx0
 clear yx0
 have x1 := yx1
 clear yx1
 have x2 := yx2
 clear yx2
 have x3 := yx3
 clear yx3
 generalize (X2.alloc (.cells #[.slice sp P.length cp, .slice sc lc cc, .slice sm lm cm, .slice none 0 0] 44)) = Y at *
 have HY4 := Lib.hid HY4
 have HYs := Lib.hid hYs
 obtain ⟨b3, hb3⟩ : ∃ b, b = X2.heap.size := ⟨_, rfl⟩
 have Hb3 := Lib.hid (show b0 + 1 + 1 ≤ b3 by have := HVs.out; omega)
 rw [← hb3] at HY4 HYs ⊢
 have eY := e2.trans eA
 replace HO := Lib.hid (HO.out.ext eA)
 clear hb3 hYs eA e2 HVs ht0 htg
 go_loopw [47] (fun iv wr => ∃ (i : Nat) (gv : Value), i ≤ G.length ∧ iv = .int .i64 i ∧ Hid (OwnV 44 b3 wr b3 4 [.slice sp P.length cp, .slice sc lc cc, .slice sm lm cm, gv]) ∧ Hid (GnO (b3 + 1) wr gv ((shfG G q t P.length).take i)) ∧ Hid (Below b3 Y wr)) (fun iv _ => G.length - (intOf iv).toNat)
 case atStart => exact ⟨0, _, by omega, by go_num, HY4, Lib.hid (GnO.nil _ _), Lib.hid (Below.refl _ _)⟩
 case round =>
  obtain ⟨i, gv, hi, rfl, HO4, HGN, HB4⟩ := hrel
  generalize wr = Z at *
  have hZs2 : b3 + 1 ≤ Z.heap.size := by have := HYs.out; have := HB4.out.size; omega
  have HZs := Lib.hid hZs2
  have eZ := Lib.hid (show Ext w Z from Below.trans eY (HB4.out.mono (by have := Hb0.out; have := Hb3.out; omega)))
  have HO3 := HO4.out.cell (j := 3) (by simp)
  simp only [List.getElem_cons_zero, List.getElem_cons_succ] at HO3
  clear hZs2
  by_cases hlt : i < G.length
  ·have hii : (i : Int) < (G.length : Int) := by omega
   have hiv : i < vs.length := by rw [HV.out]; exact hlt
   obtain rfl := HS.out.addr (by omega)
   have c0 := eZ.out.cell (HS.out.cell i _ (List.getElem?_eq_getElem hiv))
   have hsz := HR.out i hlt hiv
   obtain ⟨xa', xc', ex⟩ := szR_slc hsz
   rw [ex, Hcl.out _ (List.getElem_mem hlt)] at c0 hsz
   have Hsz := Lib.hid hsz
   have hsk := Lib.hid (shfG_snoc (q := q) (t := t) (n := P.length) hlt)
   have Hsl := Lib.hid (Hsh.out _ (List.getElem_mem hlt))
   have Hcll := Lib.hid (Hcl.out _ (List.getElem_mem hlt))
   obtain ⟨l, hl⟩ : ∃ l, l = G[i] := ⟨_, rfl⟩
   rw [← hl] at Hsz hsk Hsl Hcll
   obtain ⟨ga, gc, rfl⟩ := HGN.out.slice
   have Htl := Lib.hid (show ((shfG G q t P.length).take i).length = i by rw [List.length_take, shfG_length]; omega)
   rw [Htl.out] at HO3 HO4 HGN
   have Hcb := Lib.hid (fun W v fv (k : Rat) (hk : k = 1 ∨ k = 0) (hW : Ext w W) (hv : GnR W v [l, q]) (hfv : SzR W fv [1, k]) => combine_any (pa := sp) (np := P.length) (cp := cp) hv hfv (fun s hs => by
    simp only [List.mem_cons, List.not_mem_nil, or_false] at hs
    rcases hs with rfl | rfl
    ·exact Hcll.out
    ·exact Hql.out) (by simp) (fun s hs => by
    simp only [List.mem_cons, List.not_mem_nil, or_false] at hs
    rcases hs with rfl | rfl
    ·exact shQ_nd Hsl.out (by omega)
    ·exact shQ_nd Hqs.out (by omega)) (fun r hr => by
    simp only [List.mem_cons, List.not_mem_nil, or_false] at hr
    rcases hr with rfl | rfl
    ·exact NdQ.one (by omega)
    ·rcases hk with rfl | rfl
     ·exact NdQ.one (by omega)
     ·exact NdQ.zero (by omega)) (by omega) (by simp) (HL.out.ext hW))
   clear hsz ex hl hiv hlt
   by_cases hit : (i : Int) = t
   ·rw [if_pos hit] at hsk
    have hitb : ((i : Int) == t) = true := beq_iff_eq.2 hit
    clear hit
    have eQ := (Ext.refl Z).alloc (.cells #[.string ⟨#[49]⟩, .string ⟨#[49]⟩] 63)
    have k0 : (Z.alloc (.cells #[.string ⟨#[49]⟩, .string ⟨#[49]⟩] 63)).cell? ⟨Z.heap.size, 0, none⟩ = some (.string ⟨#[49]⟩) := by go_simp
    have k1 : (Z.alloc (.cells #[.string ⟨#[49]⟩, .string ⟨#[49]⟩] 63)).cell? ⟨Z.heap.size, 1, none⟩ = some (.string ⟨#[49]⟩) := by go_simp
    have hq3 := eQ.cell HO3
    have hQs : b3 + 1 ≤ (Z.alloc (.cells #[.string ⟨#[49]⟩, .string ⟨#[49]⟩] 63)).heap.size := by have := HZs.out; simp; omega
    have HBQ := Lib.hid (show Below b3 Y (Z.alloc (.cells #[.string ⟨#[49]⟩, .string ⟨#[49]⟩] 63)) from HB4.out.trans (Below.mono eQ (by have := HZs.out; omega)))
    go_upto_region 17 with fail
    generalize Z.alloc (.cells #[.string ⟨#[49]⟩, .string ⟨#[49]⟩] 63) = Q at *
    generalize Z.heap.size = bk at *
    have HQs := Lib.hid hQs
    have eZQ := Lib.hid (eZ.out.trans eQ)
    have HOQ := Lib.hid (HO4.out.ext eQ)
    have HGQ := Lib.hid (HGN.out.ext eQ)
    clear hQs c0 HO3 HO4 HGN HB4 eZ
    have d0E : Ext Q Q.drew := (Ext.refl Q).drew
    refine wp_region_held_tail (S := fun W => Ext Q W) 11 (by kernel_rfl) (by simp) ?_
    intro inv
    generalize Q.drew = Z1 at *
    refine wpAnyLH_take (i := 0) (v := .pointer (some ⟨b3, 3, none⟩)) rfl (by kernel_rfl) (fun _ _ _ h => h) (.inl ⟨by rfl, fun W hW => by go_simp⟩) d0E inv ?_
    intro inv
    go_simp
    refine wpAnyLH_take (i := 1) (v := .slice ga i gc) rfl (by kernel_rfl) (fun _ _ _ h => h) (.inl ⟨by rfl, fun W hW => by have z0 := hW.cell hq3; go_simp⟩) d0E inv ?_
    intro inv
    go_simp
    refine wpAnyLH_take (i := 2) (v := .slice sp P.length cp) rfl (by kernel_rfl) (fun _ _ _ h => h) (.inl ⟨by rfl, fun W hW => by go_simp⟩) d0E inv ?_
    intro inv
    go_simp
    refine wpAnyLH_take (i := 3) (v := (.slice xa' P.length xc')) rfl (by kernel_rfl) (fun _ _ _ h => h) (.inl ⟨by rfl, fun W hW => by go_simp⟩) d0E inv ?_
    intro inv
    go_simp
    refine wpAnyLH_take (i := 4) (v := .slice sva P.length svc) rfl (by kernel_rfl) (fun _ _ _ h => h) (.inl ⟨by rfl, fun W hW => by go_simp⟩) d0E inv ?_
    intro inv
    go_simp
    refine wpAnyLH_take (i := 6) (v := .agg #[.string ⟨#[49]⟩, .string ⟨#[49]⟩]) rfl (by kernel_rfl) (fun _ _ _ h => h) (.inl ⟨by rfl, fun W hW => by go_simp⟩) d0E inv ?_
    intro inv
    go_simp
    refine wpAnyLH_take (i := 7) (v := .agg #[.string ⟨#[49]⟩, .string ⟨#[49]⟩]) rfl (by kernel_rfl) (fun _ _ _ h => h) (.inl ⟨by rfl, fun W hW => by have z0 := hW.cell k0; have z1 := hW.cell k1; go_simp⟩) d0E inv ?_
    intro inv
    go_simp
    refine wpAnyLH_twoII (i := 5) (j := 8) rfl rfl (by kernel_rfl) inv (fun inv K0 hK0 => ?_) (fun inv K0 hK0 => ?_)
    ·go_simp
     refine hK0 _ _ (d0E.alloc (.cells #[.slice xa' P.length xc', .slice sva P.length svc] 52)) ?_
     clear hK0
     refine wpAnyLH_oneI (i := 8) rfl (by kernel_rfl) inv (fun inv K0 hK0 => ?_)
     go_simp
     have d1E : Ext Q ((Z1.alloc (.cells #[.slice xa' P.length xc', .slice sva P.length svc] 52)).alloc (.cells #[.string ⟨#[49]⟩, .string ⟨#[49]⟩, .string ⟨#[49]⟩, .string ⟨#[49]⟩] 63)) := (d0E.alloc (.cells #[.slice xa' P.length xc', .slice sva P.length svc] 52)).alloc (.cells #[.string ⟨#[49]⟩, .string ⟨#[49]⟩, .string ⟨#[49]⟩, .string ⟨#[49]⟩] 63)
     have HGn := Lib.hid (show GnR ((Z1.alloc (.cells #[.slice xa' P.length xc', .slice sva P.length svc] 52)).alloc (.cells #[.string ⟨#[49]⟩, .string ⟨#[49]⟩, .string ⟨#[49]⟩, .string ⟨#[49]⟩] 63)) (.slice (some ⟨Z1.heap.size, 0, none⟩) 2 2) [l, q] from gn2N (by go_simp) (by go_simp) (Hsz.out.ext (eZQ.out.trans d1E)) (Hsr.out.ext (eZQ.out.trans d1E)))
     have HSz := Lib.hid (show SzR ((Z1.alloc (.cells #[.slice xa' P.length xc', .slice sva P.length svc] 52)).alloc (.cells #[.string ⟨#[49]⟩, .string ⟨#[49]⟩, .string ⟨#[49]⟩, .string ⟨#[49]⟩] 63)) (.slice (some ⟨Z1.heap.size + 1, 0, none⟩) 2 2) [1, 1] from sz2M (by rw [I_one1.1]; go_simp) (by rw [I_one1.2]; go_simp) (by rw [I_one1.1]; go_simp) (by rw [I_one1.2]; go_simp))
     refine hK0 _ _ d1E ?_
     clear hK0
     generalize hW2 : World.alloc (World.alloc Z1 _) _ = W2 at *
     clear hW2
     refine wpAnyLH_oneI (i := 9) rfl (by kernel_rfl) inv (fun inv K0 hK0 => ?_)
     go_simp
     refine (Hcb.out _ _ _ 1 (by simp) (eZQ.out.trans d1E) HGn.out HSz.out).mono ?_
     rintro e Z3 ⟨⟨gq, rfl, _, hO⟩, hE3⟩
     have d2E := d1E.trans hE3
     have Hv := Lib.hid (show SzV (b3 + 1) Z3 (slv gq P.length P.length) (cmbQ [l, q] [1, 1] P.length) by
      have := hO.val
      rw [cmbQ_length] at this
      exact this.mono (by have := d1E.size; have := HQs.out; omega))
     refine hK0 _ _ d2E ?_
     clear hK0 hO
     refine wpAnyLH_oneI (i := 10) rfl (by kernel_rfl) inv (fun inv K0 hK0 => ?_)
     go_simp
     have d3E := d2E.alloc (.cells #[slv gq P.length P.length] 52)
     refine hK0 _ _ d3E ?_
     clear hK0
     refine wpAnyLH_end (by kernel_rfl) ?_
     have HG3 := Lib.hid (HGQ.out.ext d3E)
     have HV3 := Lib.hid (Hv.out.ext ((Ext.refl _).alloc (.cells #[slv gq P.length P.length] 52)))
     have h39 : (Z3.alloc (.cells #[slv gq P.length P.length] 52)).cell? ⟨Z3.heap.size, 0, none⟩ = some (slv gq P.length P.length) := by go_simp
     have h3s : b3 + 1 ≤ (Z3.alloc (.cells #[slv gq P.length P.length] 52)).heap.size := by have := d3E.size; have := HQs.out; omega
     have HO3 := Lib.hid (HOQ.out.ext d3E)
     have HB3 := Lib.hid (show Below b3 Y (Z3.alloc (.cells #[slv gq P.length P.length] 52)) from HBQ.out.trans (Below.mono d3E (by have := HQs.out; omega)))
     clear hE3 inv d0E d1E d2E d3E Hv HGn HSz Hcb hq3 k0 k1 eQ
     go_wp2_with (at_builtin; (refine app_gn rfl _ _ 42 Tryz.underlying42 rfl rfl HG3.out (b := Z3.heap.size) rfl h39 HV3.out (by rw [Htl.out]; omega) h3s ?_; intro g9 c9 W9 hO9 hB9 hG9; rw [hsk.out, Htl.out] at hO9; rw [Htl.out]; have HO9 := Lib.hid hO9; have d9 := hB9; obtain ⟨HOw, HOx⟩ : Hid (OwnV 44 b3 W9 b3 4 [.slice sp P.length cp, .slice sc lc cc, .slice sm lm cm, .slice ga i gc]) ∧ True := ⟨Lib.hid (HO3.out.below d9 (by omega)), trivial⟩; have HBw := Lib.hid (show Below b3 Y W9 from HB3.out.trans (Below.mono d9 (by omega))); have e0 := HOw.out.cell (j := 3) (by simp); simp only [List.getElem_cons_zero, List.getElem_cons_succ] at e0; have f0 := HOw.out.frozen 3; clear hO9 hB9 hG9 HOx d9))
     obtain ⟨h4, g4⟩ := OwnV.set HOw.out 3 (slv g9 (i + 1) c9)
     have H4 := Lib.hid h4
     have G4 := Lib.hid (GnO.kept HO9.out g4 (by omega))
     have B4 := Lib.hid (Below.grown HBw.out g4 (by have := HBw.out.size; have := HYs.out; omega) (fun q hq => by injection hq with hq; omega))
     clear h4 g4
     go_roundw
     case rel => exact ⟨i + 1, _, by omega, by go_num, H4, G4, B4⟩
     case measure => simp [intOf] <;> omega
    ·go_simp
     refine hK0 _ _ (d0E.alloc (.cells #[.string ⟨#[49]⟩, .string ⟨#[49]⟩, .string ⟨#[49]⟩, .string ⟨#[49]⟩] 63)) ?_
     clear hK0
     refine wpAnyLH_oneI (i := 5) rfl (by kernel_rfl) inv (fun inv K0 hK0 => ?_)
     go_simp
     have d1E : Ext Q ((Z1.alloc (.cells #[.string ⟨#[49]⟩, .string ⟨#[49]⟩, .string ⟨#[49]⟩, .string ⟨#[49]⟩] 63)).alloc (.cells #[.slice xa' P.length xc', .slice sva P.length svc] 52)) := (d0E.alloc (.cells #[.string ⟨#[49]⟩, .string ⟨#[49]⟩, .string ⟨#[49]⟩, .string ⟨#[49]⟩] 63)).alloc (.cells #[.slice xa' P.length xc', .slice sva P.length svc] 52)
     have HGn := Lib.hid (show GnR ((Z1.alloc (.cells #[.string ⟨#[49]⟩, .string ⟨#[49]⟩, .string ⟨#[49]⟩, .string ⟨#[49]⟩] 63)).alloc (.cells #[.slice xa' P.length xc', .slice sva P.length svc] 52)) (.slice (some ⟨Z1.heap.size + 1, 0, none⟩) 2 2) [l, q] from gn2N (by go_simp) (by go_simp) (Hsz.out.ext (eZQ.out.trans d1E)) (Hsr.out.ext (eZQ.out.trans d1E)))
     have HSz := Lib.hid (show SzR ((Z1.alloc (.cells #[.string ⟨#[49]⟩, .string ⟨#[49]⟩, .string ⟨#[49]⟩, .string ⟨#[49]⟩] 63)).alloc (.cells #[.slice xa' P.length xc', .slice sva P.length svc] 52)) (.slice (some ⟨Z1.heap.size, 0, none⟩) 2 2) [1, 1] from sz2M (by rw [I_one1.1]; go_simp) (by rw [I_one1.2]; go_simp) (by rw [I_one1.1]; go_simp) (by rw [I_one1.2]; go_simp))
     refine hK0 _ _ d1E ?_
     clear hK0
     generalize hW2 : World.alloc (World.alloc Z1 _) _ = W2 at *
     clear hW2
     refine wpAnyLH_oneI (i := 9) rfl (by kernel_rfl) inv (fun inv K0 hK0 => ?_)
     go_simp
     refine (Hcb.out _ _ _ 1 (by simp) (eZQ.out.trans d1E) HGn.out HSz.out).mono ?_
     rintro e Z3 ⟨⟨gq, rfl, _, hO⟩, hE3⟩
     have d2E := d1E.trans hE3
     have Hv := Lib.hid (show SzV (b3 + 1) Z3 (slv gq P.length P.length) (cmbQ [l, q] [1, 1] P.length) by
      have := hO.val
      rw [cmbQ_length] at this
      exact this.mono (by have := d1E.size; have := HQs.out; omega))
     refine hK0 _ _ d2E ?_
     clear hK0 hO
     refine wpAnyLH_oneI (i := 10) rfl (by kernel_rfl) inv (fun inv K0 hK0 => ?_)
     go_simp
     have d3E := d2E.alloc (.cells #[slv gq P.length P.length] 52)
     refine hK0 _ _ d3E ?_
     clear hK0
     refine wpAnyLH_end (by kernel_rfl) ?_
     have HG3 := Lib.hid (HGQ.out.ext d3E)
     have HV3 := Lib.hid (Hv.out.ext ((Ext.refl _).alloc (.cells #[slv gq P.length P.length] 52)))
     have h39 : (Z3.alloc (.cells #[slv gq P.length P.length] 52)).cell? ⟨Z3.heap.size, 0, none⟩ = some (slv gq P.length P.length) := by go_simp
     have h3s : b3 + 1 ≤ (Z3.alloc (.cells #[slv gq P.length P.length] 52)).heap.size := by have := d3E.size; have := HQs.out; omega
     have HO3 := Lib.hid (HOQ.out.ext d3E)
     have HB3 := Lib.hid (show Below b3 Y (Z3.alloc (.cells #[slv gq P.length P.length] 52)) from HBQ.out.trans (Below.mono d3E (by have := HQs.out; omega)))
     clear hE3 inv d0E d1E d2E d3E Hv HGn HSz Hcb hq3 k0 k1 eQ
     go_wp2_with (at_builtin; (refine app_gn rfl _ _ 42 Tryz.underlying42 rfl rfl HG3.out (b := Z3.heap.size) rfl h39 HV3.out (by rw [Htl.out]; omega) h3s ?_; intro g9 c9 W9 hO9 hB9 hG9; rw [hsk.out, Htl.out] at hO9; rw [Htl.out]; have HO9 := Lib.hid hO9; have d9 := hB9; obtain ⟨HOw, HOx⟩ : Hid (OwnV 44 b3 W9 b3 4 [.slice sp P.length cp, .slice sc lc cc, .slice sm lm cm, .slice ga i gc]) ∧ True := ⟨Lib.hid (HO3.out.below d9 (by omega)), trivial⟩; have HBw := Lib.hid (show Below b3 Y W9 from HB3.out.trans (Below.mono d9 (by omega))); have e0 := HOw.out.cell (j := 3) (by simp); simp only [List.getElem_cons_zero, List.getElem_cons_succ] at e0; have f0 := HOw.out.frozen 3; clear hO9 hB9 hG9 HOx d9))
     obtain ⟨h4, g4⟩ := OwnV.set HOw.out 3 (slv g9 (i + 1) c9)
     have H4 := Lib.hid h4
     have G4 := Lib.hid (GnO.kept HO9.out g4 (by omega))
     have B4 := Lib.hid (Below.grown HBw.out g4 (by have := HBw.out.size; have := HYs.out; omega) (fun q hq => by injection hq with hq; omega))
     clear h4 g4
     go_roundw
     case rel => exact ⟨i + 1, _, by omega, by go_num, H4, G4, B4⟩
     case measure => simp [intOf] <;> omega
   ·rw [if_neg hit] at hsk
    have hitb : ((i : Int) == t) = false := beq_eq_false_iff_ne.2 hit
    clear hit
    have eQ := (Ext.refl Z).alloc (.cells #[.string ⟨#[48]⟩, .string ⟨#[49]⟩] 63)
    have k0 : (Z.alloc (.cells #[.string ⟨#[48]⟩, .string ⟨#[49]⟩] 63)).cell? ⟨Z.heap.size, 0, none⟩ = some (.string ⟨#[48]⟩) := by go_simp
    have k1 : (Z.alloc (.cells #[.string ⟨#[48]⟩, .string ⟨#[49]⟩] 63)).cell? ⟨Z.heap.size, 1, none⟩ = some (.string ⟨#[49]⟩) := by go_simp
    have hq3 := eQ.cell HO3
    have hQs : b3 + 1 ≤ (Z.alloc (.cells #[.string ⟨#[48]⟩, .string ⟨#[49]⟩] 63)).heap.size := by have := HZs.out; simp; omega
    have HBQ := Lib.hid (show Below b3 Y (Z.alloc (.cells #[.string ⟨#[48]⟩, .string ⟨#[49]⟩] 63)) from HB4.out.trans (Below.mono eQ (by have := HZs.out; omega)))
    go_upto_region 17 with fail
    generalize Z.alloc (.cells #[.string ⟨#[48]⟩, .string ⟨#[49]⟩] 63) = Q at *
    generalize Z.heap.size = bk at *
    have HQs := Lib.hid hQs
    have eZQ := Lib.hid (eZ.out.trans eQ)
    have HOQ := Lib.hid (HO4.out.ext eQ)
    have HGQ := Lib.hid (HGN.out.ext eQ)
    clear hQs c0 HO3 HO4 HGN HB4 eZ
    have d0E : Ext Q Q.drew := (Ext.refl Q).drew
    refine wp_region_held_tail (S := fun W => Ext Q W) 11 (by kernel_rfl) (by simp) ?_
    intro inv
    generalize Q.drew = Z1 at *
    refine wpAnyLH_take (i := 0) (v := .pointer (some ⟨b3, 3, none⟩)) rfl (by kernel_rfl) (fun _ _ _ h => h) (.inl ⟨by rfl, fun W hW => by go_simp⟩) d0E inv ?_
    intro inv
    go_simp
    refine wpAnyLH_take (i := 1) (v := .slice ga i gc) rfl (by kernel_rfl) (fun _ _ _ h => h) (.inl ⟨by rfl, fun W hW => by have z0 := hW.cell hq3; go_simp⟩) d0E inv ?_
    intro inv
    go_simp
    refine wpAnyLH_take (i := 2) (v := .slice sp P.length cp) rfl (by kernel_rfl) (fun _ _ _ h => h) (.inl ⟨by rfl, fun W hW => by go_simp⟩) d0E inv ?_
    intro inv
    go_simp
    refine wpAnyLH_take (i := 3) (v := (.slice xa' P.length xc')) rfl (by kernel_rfl) (fun _ _ _ h => h) (.inl ⟨by rfl, fun W hW => by go_simp⟩) d0E inv ?_
    intro inv
    go_simp
    refine wpAnyLH_take (i := 4) (v := .slice sva P.length svc) rfl (by kernel_rfl) (fun _ _ _ h => h) (.inl ⟨by rfl, fun W hW => by go_simp⟩) d0E inv ?_
    intro inv
    go_simp
    refine wpAnyLH_take (i := 6) (v := .agg #[.string ⟨#[49]⟩, .string ⟨#[49]⟩]) rfl (by kernel_rfl) (fun _ _ _ h => h) (.inl ⟨by rfl, fun W hW => by go_simp⟩) d0E inv ?_
    intro inv
    go_simp
    refine wpAnyLH_take (i := 7) (v := .agg #[.string ⟨#[48]⟩, .string ⟨#[49]⟩]) rfl (by kernel_rfl) (fun _ _ _ h => h) (.inl ⟨by rfl, fun W hW => by have z0 := hW.cell k0; have z1 := hW.cell k1; go_simp⟩) d0E inv ?_
    intro inv
    go_simp
    refine wpAnyLH_twoII (i := 5) (j := 8) rfl rfl (by kernel_rfl) inv (fun inv K0 hK0 => ?_) (fun inv K0 hK0 => ?_)
    ·go_simp
     refine hK0 _ _ (d0E.alloc (.cells #[.slice xa' P.length xc', .slice sva P.length svc] 52)) ?_
     clear hK0
     refine wpAnyLH_oneI (i := 8) rfl (by kernel_rfl) inv (fun inv K0 hK0 => ?_)
     go_simp
     have d1E : Ext Q ((Z1.alloc (.cells #[.slice xa' P.length xc', .slice sva P.length svc] 52)).alloc (.cells #[.string ⟨#[49]⟩, .string ⟨#[49]⟩, .string ⟨#[48]⟩, .string ⟨#[49]⟩] 63)) := (d0E.alloc (.cells #[.slice xa' P.length xc', .slice sva P.length svc] 52)).alloc (.cells #[.string ⟨#[49]⟩, .string ⟨#[49]⟩, .string ⟨#[48]⟩, .string ⟨#[49]⟩] 63)
     have HGn := Lib.hid (show GnR ((Z1.alloc (.cells #[.slice xa' P.length xc', .slice sva P.length svc] 52)).alloc (.cells #[.string ⟨#[49]⟩, .string ⟨#[49]⟩, .string ⟨#[48]⟩, .string ⟨#[49]⟩] 63)) (.slice (some ⟨Z1.heap.size, 0, none⟩) 2 2) [l, q] from gn2N (by go_simp) (by go_simp) (Hsz.out.ext (eZQ.out.trans d1E)) (Hsr.out.ext (eZQ.out.trans d1E)))
     have HSz := Lib.hid (show SzR ((Z1.alloc (.cells #[.slice xa' P.length xc', .slice sva P.length svc] 52)).alloc (.cells #[.string ⟨#[49]⟩, .string ⟨#[49]⟩, .string ⟨#[48]⟩, .string ⟨#[49]⟩] 63)) (.slice (some ⟨Z1.heap.size + 1, 0, none⟩) 2 2) [1, 0] from sz2M (by rw [I_one1.1]; go_simp) (by rw [I_one1.2]; go_simp) (by rw [I_zeroR.1]; go_simp) (by rw [I_zeroR.2]; go_simp))
     refine hK0 _ _ d1E ?_
     clear hK0
     generalize hW2 : World.alloc (World.alloc Z1 _) _ = W2 at *
     clear hW2
     refine wpAnyLH_oneI (i := 9) rfl (by kernel_rfl) inv (fun inv K0 hK0 => ?_)
     go_simp
     refine (Hcb.out _ _ _ 0 (by simp) (eZQ.out.trans d1E) HGn.out HSz.out).mono ?_
     rintro e Z3 ⟨⟨gq, rfl, _, hO⟩, hE3⟩
     have d2E := d1E.trans hE3
     have Hv := Lib.hid (show SzV (b3 + 1) Z3 (slv gq P.length P.length) (cmbQ [l, q] [1, 0] P.length) by
      have := hO.val
      rw [cmbQ_length] at this
      exact this.mono (by have := d1E.size; have := HQs.out; omega))
     refine hK0 _ _ d2E ?_
     clear hK0 hO
     refine wpAnyLH_oneI (i := 10) rfl (by kernel_rfl) inv (fun inv K0 hK0 => ?_)
     go_simp
     have d3E := d2E.alloc (.cells #[slv gq P.length P.length] 52)
     refine hK0 _ _ d3E ?_
     clear hK0
     refine wpAnyLH_end (by kernel_rfl) ?_
     have HG3 := Lib.hid (HGQ.out.ext d3E)
     have HV3 := Lib.hid (Hv.out.ext ((Ext.refl _).alloc (.cells #[slv gq P.length P.length] 52)))
     have h39 : (Z3.alloc (.cells #[slv gq P.length P.length] 52)).cell? ⟨Z3.heap.size, 0, none⟩ = some (slv gq P.length P.length) := by go_simp
     have h3s : b3 + 1 ≤ (Z3.alloc (.cells #[slv gq P.length P.length] 52)).heap.size := by have := d3E.size; have := HQs.out; omega
     have HO3 := Lib.hid (HOQ.out.ext d3E)
     have HB3 := Lib.hid (show Below b3 Y (Z3.alloc (.cells #[slv gq P.length P.length] 52)) from HBQ.out.trans (Below.mono d3E (by have := HQs.out; omega)))
     clear hE3 inv d0E d1E d2E d3E Hv HGn HSz Hcb hq3 k0 k1 eQ
     go_wp2_with (at_builtin; (refine app_gn rfl _ _ 42 Tryz.underlying42 rfl rfl HG3.out (b := Z3.heap.size) rfl h39 HV3.out (by rw [Htl.out]; omega) h3s ?_; intro g9 c9 W9 hO9 hB9 hG9; rw [hsk.out, Htl.out] at hO9; rw [Htl.out]; have HO9 := Lib.hid hO9; have d9 := hB9; obtain ⟨HOw, HOx⟩ : Hid (OwnV 44 b3 W9 b3 4 [.slice sp P.length cp, .slice sc lc cc, .slice sm lm cm, .slice ga i gc]) ∧ True := ⟨Lib.hid (HO3.out.below d9 (by omega)), trivial⟩; have HBw := Lib.hid (show Below b3 Y W9 from HB3.out.trans (Below.mono d9 (by omega))); have e0 := HOw.out.cell (j := 3) (by simp); simp only [List.getElem_cons_zero, List.getElem_cons_succ] at e0; have f0 := HOw.out.frozen 3; clear hO9 hB9 hG9 HOx d9))
     obtain ⟨h4, g4⟩ := OwnV.set HOw.out 3 (slv g9 (i + 1) c9)
     have H4 := Lib.hid h4
     have G4 := Lib.hid (GnO.kept HO9.out g4 (by omega))
     have B4 := Lib.hid (Below.grown HBw.out g4 (by have := HBw.out.size; have := HYs.out; omega) (fun q hq => by injection hq with hq; omega))
     clear h4 g4
     go_roundw
     case rel => exact ⟨i + 1, _, by omega, by go_num, H4, G4, B4⟩
     case measure => simp [intOf] <;> omega
    ·go_simp
     refine hK0 _ _ (d0E.alloc (.cells #[.string ⟨#[49]⟩, .string ⟨#[49]⟩, .string ⟨#[48]⟩, .string ⟨#[49]⟩] 63)) ?_
     clear hK0
     refine wpAnyLH_oneI (i := 5) rfl (by kernel_rfl) inv (fun inv K0 hK0 => ?_)
     go_simp
     have d1E : Ext Q ((Z1.alloc (.cells #[.string ⟨#[49]⟩, .string ⟨#[49]⟩, .string ⟨#[48]⟩, .string ⟨#[49]⟩] 63)).alloc (.cells #[.slice xa' P.length xc', .slice sva P.length svc] 52)) := (d0E.alloc (.cells #[.string ⟨#[49]⟩, .string ⟨#[49]⟩, .string ⟨#[48]⟩, .string ⟨#[49]⟩] 63)).alloc (.cells #[.slice xa' P.length xc', .slice sva P.length svc] 52)
     have HGn := Lib.hid (show GnR ((Z1.alloc (.cells #[.string ⟨#[49]⟩, .string ⟨#[49]⟩, .string ⟨#[48]⟩, .string ⟨#[49]⟩] 63)).alloc (.cells #[.slice xa' P.length xc', .slice sva P.length svc] 52)) (.slice (some ⟨Z1.heap.size + 1, 0, none⟩) 2 2) [l, q] from gn2N (by go_simp) (by go_simp) (Hsz.out.ext (eZQ.out.trans d1E)) (Hsr.out.ext (eZQ.out.trans d1E)))
     have HSz := Lib.hid (show SzR ((Z1.alloc (.cells #[.string ⟨#[49]⟩, .string ⟨#[49]⟩, .string ⟨#[48]⟩, .string ⟨#[49]⟩] 63)).alloc (.cells #[.slice xa' P.length xc', .slice sva P.length svc] 52)) (.slice (some ⟨Z1.heap.size, 0, none⟩) 2 2) [1, 0] from sz2M (by rw [I_one1.1]; go_simp) (by rw [I_one1.2]; go_simp) (by rw [I_zeroR.1]; go_simp) (by rw [I_zeroR.2]; go_simp))
     refine hK0 _ _ d1E ?_
     clear hK0
     generalize hW2 : World.alloc (World.alloc Z1 _) _ = W2 at *
     clear hW2
     refine wpAnyLH_oneI (i := 9) rfl (by kernel_rfl) inv (fun inv K0 hK0 => ?_)
     go_simp
     refine (Hcb.out _ _ _ 0 (by simp) (eZQ.out.trans d1E) HGn.out HSz.out).mono ?_
     rintro e Z3 ⟨⟨gq, rfl, _, hO⟩, hE3⟩
     have d2E := d1E.trans hE3
     have Hv := Lib.hid (show SzV (b3 + 1) Z3 (slv gq P.length P.length) (cmbQ [l, q] [1, 0] P.length) by
      have := hO.val
      rw [cmbQ_length] at this
      exact this.mono (by have := d1E.size; have := HQs.out; omega))
     refine hK0 _ _ d2E ?_
     clear hK0 hO
     refine wpAnyLH_oneI (i := 10) rfl (by kernel_rfl) inv (fun inv K0 hK0 => ?_)
     go_simp
     have d3E := d2E.alloc (.cells #[slv gq P.length P.length] 52)
     refine hK0 _ _ d3E ?_
     clear hK0
     refine wpAnyLH_end (by kernel_rfl) ?_
     have HG3 := Lib.hid (HGQ.out.ext d3E)
     have HV3 := Lib.hid (Hv.out.ext ((Ext.refl _).alloc (.cells #[slv gq P.length P.length] 52)))
     have h39 : (Z3.alloc (.cells #[slv gq P.length P.length] 52)).cell? ⟨Z3.heap.size, 0, none⟩ = some (slv gq P.length P.length) := by go_simp
     have h3s : b3 + 1 ≤ (Z3.alloc (.cells #[slv gq P.length P.length] 52)).heap.size := by have := d3E.size; have := HQs.out; omega
     have HO3 := Lib.hid (HOQ.out.ext d3E)
     have HB3 := Lib.hid (show Below b3 Y (Z3.alloc (.cells #[slv gq P.length P.length] 52)) from HBQ.out.trans (Below.mono d3E (by have := HQs.out; omega)))
     clear hE3 inv d0E d1E d2E d3E Hv HGn HSz Hcb hq3 k0 k1 eQ
     go_wp2_with (at_builtin; (refine app_gn rfl _ _ 42 Tryz.underlying42 rfl rfl HG3.out (b := Z3.heap.size) rfl h39 HV3.out (by rw [Htl.out]; omega) h3s ?_; intro g9 c9 W9 hO9 hB9 hG9; rw [hsk.out, Htl.out] at hO9; rw [Htl.out]; have HO9 := Lib.hid hO9; have d9 := hB9; obtain ⟨HOw, HOx⟩ : Hid (OwnV 44 b3 W9 b3 4 [.slice sp P.length cp, .slice sc lc cc, .slice sm lm cm, .slice ga i gc]) ∧ True := ⟨Lib.hid (HO3.out.below d9 (by omega)), trivial⟩; have HBw := Lib.hid (show Below b3 Y W9 from HB3.out.trans (Below.mono d9 (by omega))); have e0 := HOw.out.cell (j := 3) (by simp); simp only [List.getElem_cons_zero, List.getElem_cons_succ] at e0; have f0 := HOw.out.frozen 3; clear hO9 hB9 hG9 HOx d9))
     obtain ⟨h4, g4⟩ := OwnV.set HOw.out 3 (slv g9 (i + 1) c9)
     have H4 := Lib.hid h4
     have G4 := Lib.hid (GnO.kept HO9.out g4 (by omega))
     have B4 := Lib.hid (Below.grown HBw.out g4 (by have := HBw.out.size; have := HYs.out; omega) (fun q hq => by injection hq with hq; omega))
     clear h4 g4
     go_roundw
     case rel => exact ⟨i + 1, _, by omega, by go_num, H4, G4, B4⟩
     case measure => simp [intOf] <;> omega
  ·obtain rfl : i = G.length := by omega
   have hii : ¬ (G.length : Int) < (G.length : Int) := by omega
   have o0 := HO4.out.cell (j := 0) (by simp)
   have o1 := HO4.out.cell (j := 1) (by simp)
   have o2 := HO4.out.cell (j := 2) (by simp)
   have o3 := HO3
   simp only [List.getElem_cons_zero, List.getElem_cons_succ] at o0 o1 o2
   have HOZ := Lib.hid (HO.out.below HB4.out (by have := Hb3.out; omega))
   obtain ⟨ga, gc, rfl⟩ := HGN.out.slice
   have Htl := Lib.hid (show ((shfG G q t P.length).take G.length) = shfG G q t P.length by rw [List.take_of_length_le (by simp)])
   rw [Htl.out] at HGN o3
   rw [shfG_length] at o3
   have hm := Lib.hid (Hmd.out Z _ _ _ eZ.out HGN.out.read)
   rw [shfG_length] at hm
   clear HO3 Hmd hlt HO4 HB4
   go_wp2_with fail
   refine hm.out.mono ?_
   rintro e Z3 ⟨hE3, (⟨hall, t, rfl, hTR⟩ | ⟨hno, rfl⟩)⟩
   ·obtain ⟨tsp, tcp, tsc, tlc, tcc, tsm, tlm, tcm, tsg, tlg, tcg, rfl, hTV⟩ := hTR
    have e3 := eZ.out.trans hE3
    have H2 := HOZ.out.ext hE3
    obtain ⟨Hr6, He6, Hg6⟩ := set4 e3 (by have := Hb0.out; omega) H2 (.slice tsp P.length tcp) (.slice tsc tlc tcc) (.slice tsm tlm tcm) (.slice tsg tlg tcg)
    have r0 := Hr6.cell (j := 0) (by simp)
    have r1 := Hr6.cell (j := 1) (by simp)
    have r2 := Hr6.cell (j := 2) (by simp)
    have r3 := Hr6.cell (j := 3) (by simp)
    simp only [List.getElem_cons_zero, List.getElem_cons_succ] at r0 r1 r2 r3
    have f0 := (H2).frozen 0
    have f1 := (H2).frozen 1
    have f2 := (H2).frozen 2
    have f3 := (H2).frozen 3
    have m0 := (H2).cell (j := 0) (by simp)
    have m1 := (H2).cell (j := 1) (by simp)
    have m2 := (H2).cell (j := 2) (by simp)
    have m3 := (H2).cell (j := 3) (by simp)
    simp only [List.getElem_cons_zero, List.getElem_cons_succ] at m0 m1 m2 m3
    have Hres2 := Lib.hid (Hres.out (.returned (.tuple #[tuS P tsp tcp tsc tlc tcc tsm tlm tcm tsg tlg tcg, .int .i64 0])) _ ⟨He6, .inl ⟨hall, _, rfl, _, _, _, _, _, _, _, _, _, _, _, rfl, tuV_keep hTV H2 Hg6⟩⟩)
    clear Hr6 He6 Hg6 H2 HOZ hTV Hres
    replace Hres := Hres2
    clear Hres2
    go_wp2_with fail
    refine bodyPost_ret (v := .tuple #[tuS P tsp tcp tsc tlc tcc tsm tlm tcm tsg tlg tcg, .int .i64 0]) (by simp [results, Tryz.results21, go_sem, r0, r1, r2, r3]) rfl Hres.out
   ·have e3 := eZ.out.trans hE3
    have H2 := HOZ.out.ext hE3
    obtain ⟨Hr6, He6, Hg6⟩ := set4 e3 (by have := Hb0.out; omega) H2 (.slice none 0 0) (.slice none 0 0) (.slice none 0 0) (.slice none 0 0)
    have r0 := Hr6.cell (j := 0) (by simp)
    have r1 := Hr6.cell (j := 1) (by simp)
    have r2 := Hr6.cell (j := 2) (by simp)
    have r3 := Hr6.cell (j := 3) (by simp)
    simp only [List.getElem_cons_zero, List.getElem_cons_succ] at r0 r1 r2 r3
    have f0 := (H2).frozen 0
    have f1 := (H2).frozen 1
    have f2 := (H2).frozen 2
    have f3 := (H2).frozen 3
    have m0 := (H2).cell (j := 0) (by simp)
    have m1 := (H2).cell (j := 1) (by simp)
    have m2 := (H2).cell (j := 2) (by simp)
    have m3 := (H2).cell (j := 3) (by simp)
    simp only [List.getElem_cons_zero, List.getElem_cons_succ] at m0 m1 m2 m3
    have Hres2 := Lib.hid (Hres.out (.returned (.tuple #[tuZ, .int .i64 4])) _ ⟨He6, .inr ⟨hno, rfl⟩⟩)
    clear Hr6 He6 Hg6 H2 HOZ Hres
    replace Hres := Hres2
    clear Hres2
    go_wp2_with fail
    refine bodyPost_ret (v := .tuple #[tuZ, .int .i64 4]) (by simp [results, Tryz.results21, go_sem, r0, r1, r2, r3]) rfl Hres.out
end Go.Proofs.YtedlgnoiojcjaaaGreatDoor
