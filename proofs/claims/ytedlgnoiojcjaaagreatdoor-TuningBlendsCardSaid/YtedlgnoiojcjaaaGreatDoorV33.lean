/- Part 33 of the proof of the claim: contracts of the functions that it reaches, and plain laws; no condition. -/
import Derived.Test.YtedlgnoiojcjaaaGreatDoorV28
import Derived.Test.YtedlgnoiojcjaaaGreatDoorV32
import Derived.Test.YtedlgnoiojcjaaaGreatDoorV21
set_option maxRecDepth 100000
namespace Go.Proofs.YtedlgnoiojcjaaaGreatDoor
def Fq (D B : Nat) (r : Rat) : Prop := ∃ m : Int, r * ((D : Int) : Rat) = (m : Rat) ∧ m.natAbs ≤ B
theorem Fq.add {D A B : Nat} {a b : Rat} (h : Fq D A a) (k : Fq D B b) : Fq D (A + B) (a + b) := by
 obtain ⟨m, h1, h2⟩ := h
 obtain ⟨n, k1, k2⟩ := k
 refine ⟨m + n, ?_, by omega⟩
 rw [Rat.intCast_add]; grind
theorem Fq.mul {D E A B : Nat} {a b : Rat} (h : Fq D A a) (k : Fq E B b) : Fq (D * E) (A * B) (a * b) := by
 obtain ⟨m, h1, h2⟩ := h
 obtain ⟨n, k1, k2⟩ := k
 refine ⟨m * n, ?_, ?_⟩
 ·rw [Int.natCast_mul, Rat.intCast_mul, Rat.intCast_mul]; grind
 ·rw [Int.natAbs_mul]; exact Nat.mul_le_mul h2 k2
theorem Fq.mono {D A B : Nat} {a : Rat} (h : Fq D A a) (hB : A ≤ B) : Fq D B a := by
 obtain ⟨m, h1, h2⟩ := h; exact ⟨m, h1, by omega⟩
theorem Fq.num {D B : Nat} {a : Rat} (h : Fq D B a) (hD : 0 < D) : a.num.natAbs ≤ B ∧ a.den ≤ D := by
 obtain ⟨m, h1, h2⟩ := h
 have hne : ((D : Int) : Rat) ≠ 0 := by exact_mod_cast (show (D : Int) ≠ 0 by omega)
 have e : a = Rat.divInt m (D : Int) := by
  rw [Rat.divInt_eq_div]; grind
 rw [e, Rat.num_divInt, Rat.den_divInt, if_neg (by omega)]
 constructor
 ·refine Nat.le_trans (Int.natAbs_ediv_le_natAbs _ _) ?_
  rw [Int.sign_eq_one_of_pos (by omega), Int.one_mul]
  exact h2
 ·exact Nat.div_le_self _ _
theorem Fq.sm {D B : Nat} {a : Rat} (h : Fq D B a) (hD : 0 < D) (hD2 : D < 10 ^ 30) (hB : B < 10 ^ 30) : nd a.num ≤ 30 ∧ nd a.den ≤ 30 := by
 obtain ⟨h1, h2⟩ := h.num hD
 exact ⟨nDigits_le (u := a.num.natAbs) (k := 30) (by omega) (by omega), nDigits_le (u := ((a.den : Int)).natAbs) (k := 30) (by omega) (by omega)⟩
theorem Fq.of_tw {B : Nat} {r : Rat} (h : Tw B r) : Fq 12 B r := by
 obtain ⟨m, rfl, h2⟩ := h
 refine ⟨m, ?_, h2⟩
 have : (((12 : Nat) : Int) : Rat) = 12 := rfl
 rw [this]; grind
theorem Fq.self (k : Rat) : Fq k.den k.num.natAbs k := by
 refine ⟨k.num, ?_, Nat.le_refl _⟩
 have e := rat_parts k
 have n := den_ne k
 generalize ((k.den : Int) : Rat) = d at *
 generalize ((k.num : Int) : Rat) = m at *
 grind
theorem Fq.one_sub (k : Rat) : Fq k.den (k.den + k.num.natAbs) (1 - k) := by
 refine ⟨(k.den : Int) - k.num, ?_, by omega⟩
 have e := rat_parts k
 have n := den_ne k
 rw [Rat.intCast_sub]
 generalize ((k.den : Int) : Rat) = d at *
 generalize ((k.num : Int) : Rat) = m at *
 grind
theorem nd13 {z : Int} (h : nd z ≤ 13) : z.natAbs < 10000000000000 := lt_pow_of_nd (k := 13) h
theorem stretch_sh {a k : Rat} (ha : Tw 480 a) (hn : nd k.num ≤ 13) (hd : nd k.den ≤ 13) : nd (a * k).num ≤ 30 ∧ nd (a * k).den ≤ 30 := by
 have h1 := nd13 hn
 have h2 := nd13 hd
 have h3 := k.den_pos
 have h30 : (10 : Nat) ^ 30 = 1000000000000000000000000000000 := by decide
 exact ((Fq.of_tw ha).mul (Fq.self k)).sm (by omega) (by omega) (by omega)
theorem blend_sh {a b k : Rat} (ha : Tw 480 a) (hb : Tw 480 b) (hn : nd k.num ≤ 13) (hd : nd k.den ≤ 13) : nd (a * (1 - k) + b * k).num ≤ 30 ∧ nd (a * (1 - k) + b * k).den ≤ 30 := by
 have h1 := nd13 hn
 have h2 := nd13 hd
 have h3 := k.den_pos
 have h30 : (10 : Nat) ^ 30 = 1000000000000000000000000000000 := by decide
 exact (((Fq.of_tw ha).mul (Fq.one_sub k)).add ((Fq.of_tw hb).mul (Fq.self k))).sm (by omega) (by omega) (by omega)
theorem cmbQ_one {a : List Rat} {k : Rat} {n c : Nat} (h : c < (cmbQ [a] [k] n).length) : (cmbQ [a] [k] n)[c] = a.getD c 0 * k := by
 rw [cmbQ_get]
 show (0 : Rat) + a.getD c 0 * k = _
 grind
theorem cmbQ_two {a b : List Rat} {k m : Rat} {n c : Nat} (h : c < (cmbQ [a, b] [k, m] n).length) : (cmbQ [a, b] [k, m] n)[c] = a.getD c 0 * k + b.getD c 0 * m := by
 rw [cmbQ_get]
 show (0 : Rat) + a.getD c 0 * k + b.getD c 0 * m = _
 grind
theorem tw_getD {A : Nat} {l : List Rat} (h : ∀ r ∈ l, Tw A r) (c : Nat) : Tw A (l.getD c 0) := by
 rw [List.getD_eq_getElem?_getD]
 by_cases hc : c < l.length
 ·rw [List.getElem?_eq_getElem hc]; exact h _ (List.getElem_mem hc)
 ·rw [List.getElem?_eq_none (by omega)]; exact Tw.zero _
theorem stretch_szE {a : List Rat} {k : Rat} {n : Nat} (ha : ∀ r ∈ a, Tw 480 r) (hn : nd k.num ≤ 13) (hd : nd k.den ≤ 13) : szE (cmbQ [a] [k] n) = 0 := szE_sh fun r hr => by
 obtain ⟨c, hc, rfl⟩ := List.getElem_of_mem hr
 rw [cmbQ_one]
 exact stretch_sh (tw_getD ha c) hn hd
theorem blend_szE {a b : List Rat} {k : Rat} {n : Nat} (ha : ∀ r ∈ a, Tw 480 r) (hb : ∀ r ∈ b, Tw 480 r) (hn : nd k.num ≤ 13) (hd : nd k.den ≤ 13) : szE (cmbQ [a, b] [1 - k, k] n) = 0 := szE_sh fun r hr => by
 obtain ⟨c, hc, rfl⟩ := List.getElem_of_mem hr
 rw [cmbQ_two]
 exact blend_sh (tw_getD ha c) (tw_getD hb c) hn hd
end Go.Proofs.YtedlgnoiojcjaaaGreatDoor
namespace Go.Proofs.YtedlgnoiojcjaaaGreatDoor
open Go.RowKit Go.Sort
theorem sz1N {W : World} {b : Nat} {r0 : Rat} (h0 : W.cell? ⟨b, 0, none⟩ = some (I r0.num)) (h1 : W.cell? ⟨b, 1, none⟩ = some (I r0.den)) : SzR W (.slice (some ⟨b, 0, none⟩) 1 1) [r0] := by
 refine ⟨_, b, 0, 1, rfl, Nat.le_refl _, fun _ => rfl, fun i hi => ?_⟩
 have hi3 : i < 1 := hi
 obtain rfl : i = 0 := by omega
 exact ⟨h0, h1⟩
theorem gn1N {W : World} {b : Nat} {v0 : Value} {l0 : List Rat} (h0 : W.cell? ⟨b, 0, none⟩ = some v0) (k0 : SzR W v0 l0) : GnR W (.slice (some ⟨b, 0, none⟩) 1 1) [l0] := by
 refine ⟨_, b, 0, 1, [v0], rfl, Nat.le_refl _, rfl, ⟨fun _ => rfl, fun i u hu => ?_⟩, fun i hi hi' => ?_⟩
 ·obtain ⟨hi, rfl⟩ := List.getElem?_eq_some_iff.1 hu
  have hi3 : i < 1 := hi
  obtain rfl : i = 0 := by omega
  exact h0
 ·have hi3 : i < 1 := hi
  obtain rfl : i = 0 := by omega
  exact k0
theorem cmb_nd {L : List (List Rat)} {fs : List Rat} {n E F : Nat} (hl : ∀ s ∈ L, ∀ r ∈ s, NdQ E r) (hf : ∀ r ∈ fs, NdQ F r) (hE : 1 ≤ E) (hF : 1 ≤ F) (h : L.length * (E + F + 1) + 1 ≤ 400) : ∀ r ∈ cmbQ L fs n, NdQ 400 r := fun r hr => by
 unfold cmbQ at hr
 obtain ⟨c, _, rfl⟩ := List.mem_map.1 hr
 exact (sumR_nd _ fun k _ => cmbF_nd hl hf hE hF).mono h
def strG (G : List (List Rat)) (k : Rat) (n : Nat) : List (List Rat) := G.map fun l => cmbQ [l] [k] n
@[simp] theorem strG_length (G : List (List Rat)) (k : Rat) (n : Nat) : (strG G k n).length = G.length := by simp [strG]
theorem strG_snoc {G : List (List Rat)} {k : Rat} {n i : Nat} (h : i < G.length) : (strG G k n).take i ++ [cmbQ [G[i]] [k] n] = (strG G k n).take (i + 1) := by
 have h2 : i < (strG G k n).length := by simpa using h
 rw [List.take_succ_eq_append_getElem h2]
 congr 2
 simp [strG]
def StrPost (w : World) (P : List Int) (C M : Mx) (G : List (List Rat)) (a b : List UInt8) (e : Ending) (w' : World) : Prop :=
 (frE a b ≠ 0 ∧ e = .returned (.tuple #[tuZ, .int .i64 2]) ∧ Ext w w') ∨ (∃ k : Rat, a = Lib.itoa k.num ∧ b = Lib.itoa k.den ∧ frE a b = 0 ∧ MdPost w P C M (strG G k P.length) e w')
set_option maxHeartbeats 8000000 in
theorem tuStretch_any {w : World} {P : List Int} {C M : Mx} {G : List (List Rat)} {sp : Option Addr} {cp : Nat} {sc : Option Addr} {lc cc : Nat} {sm : Option Addr} {lm cm : Nat} {sg : Option Addr} {lg cg : Nat} {a b : List UInt8} (h : TuV w P C M G sp cp sc lc cc sm lm cm sg lg cg) (ha : a.length ≤ 40) (hb : b.length ≤ 40) (hL : Laid w) :
  Calls Tryz.prog 29 #[tuS P sp cp sc lc cc sm lm cm sg lg cg, .agg #[S a, S b]] w (StrPost w P C M G a b) := by
 have hck := Lib.hid (fun W (hW : Ext w W) => tuCheck_any (h.ext hW) (hL.ext hW))
 have hfc := Lib.hid (fun W (hW : Ext w W) => fcheck_all (a := a) (b := b) (by omega) (by omega) (hL.ext hW))
 obtain ⟨hT, hG, hln, hcl, hsh⟩ := h
 have hp4 := hT.ok.p4
 have hm4 := hT.m4
 have hlg := hG.len
 have hg4 : G.length ≤ 4 := by omega
 subst hlg
 have HT := Lib.hid hT
 have HG := Lib.hid hG
 have HL := Lib.hid hL
 have Hln := Lib.hid hln
 have Hcl := Lib.hid hcl
 have Hsh := Lib.hid hsh
 obtain ⟨sg', gg, go, cg', vs, eg, hgc, hvl, hS, hr⟩ := hG
 injection eg with q1 q2 q3
 subst q1 q3
 have HS := Lib.hid hS
 have HV := Lib.hid hvl
 have HR := Lib.hid hr
 have hX0 := ((Ext.refl w).alloc (.cells #[.slice sp P.length cp, .slice sc lc cc, .slice sm lm cm, .slice sg G.length cg] 44)).alloc (.cells #[S a, S b] 63)
 have hX := hX0.alloc (.cells #[.slice none 0 0, .slice none 0 0, .slice none 0 0, .slice none 0 0] 44)
 have x0 : (((w.alloc (.cells #[.slice sp P.length cp, .slice sc lc cc, .slice sm lm cm, .slice sg G.length cg] 44)).alloc (.cells #[S a, S b] 63)).alloc (.cells #[.slice none 0 0, .slice none 0 0, .slice none 0 0, .slice none 0 0] 44)).cell? ⟨w.heap.size, 0, none⟩ = some (.slice sp P.length cp) := by go_simp
 have x1 : (((w.alloc (.cells #[.slice sp P.length cp, .slice sc lc cc, .slice sm lm cm, .slice sg G.length cg] 44)).alloc (.cells #[S a, S b] 63)).alloc (.cells #[.slice none 0 0, .slice none 0 0, .slice none 0 0, .slice none 0 0] 44)).cell? ⟨w.heap.size, 1, none⟩ = some (.slice sc lc cc) := by go_simp
 have x2 : (((w.alloc (.cells #[.slice sp P.length cp, .slice sc lc cc, .slice sm lm cm, .slice sg G.length cg] 44)).alloc (.cells #[S a, S b] 63)).alloc (.cells #[.slice none 0 0, .slice none 0 0, .slice none 0 0, .slice none 0 0] 44)).cell? ⟨w.heap.size, 2, none⟩ = some (.slice sm lm cm) := by go_simp
 have x3 : (((w.alloc (.cells #[.slice sp P.length cp, .slice sc lc cc, .slice sm lm cm, .slice sg G.length cg] 44)).alloc (.cells #[S a, S b] 63)).alloc (.cells #[.slice none 0 0, .slice none 0 0, .slice none 0 0, .slice none 0 0] 44)).cell? ⟨w.heap.size, 3, none⟩ = some (.slice sg G.length cg) := by go_simp
 have xa : (((w.alloc (.cells #[.slice sp P.length cp, .slice sc lc cc, .slice sm lm cm, .slice sg G.length cg] 44)).alloc (.cells #[S a, S b] 63)).alloc (.cells #[.slice none 0 0, .slice none 0 0, .slice none 0 0, .slice none 0 0] 44)).cell? ⟨w.heap.size + 1, 0, none⟩ = some (S a) := by go_simp
 have xb : (((w.alloc (.cells #[.slice sp P.length cp, .slice sc lc cc, .slice sm lm cm, .slice sg G.length cg] 44)).alloc (.cells #[S a, S b] 63)).alloc (.cells #[.slice none 0 0, .slice none 0 0, .slice none 0 0, .slice none 0 0] 44)).cell? ⟨w.heap.size + 1, 1, none⟩ = some (S b) := by go_simp
 have HO := own4 ((w.alloc (.cells #[.slice sp P.length cp, .slice sc lc cc, .slice sm lm cm, .slice sg G.length cg] 44)).alloc (.cells #[S a, S b] 63)) 44 (.slice none 0 0) (.slice none 0 0) (.slice none 0 0) (.slice none 0 0)
 rw [show ((w.alloc (.cells #[.slice sp P.length cp, .slice sc lc cc, .slice sm lm cm, .slice sg G.length cg] 44)).alloc (.cells #[S a, S b] 63)).heap.size = w.heap.size + 1 + 1 by simp] at HO
 have hVs : (((w.alloc (.cells #[.slice sp P.length cp, .slice sc lc cc, .slice sm lm cm, .slice sg G.length cg] 44)).alloc (.cells #[S a, S b] 63)).alloc (.cells #[.slice none 0 0, .slice none 0 0, .slice none 0 0, .slice none 0 0] 44)).heap.size = w.heap.size + 1 + 1 + 1 := by simp
 clear hT hL hln hcl hsh hX0 hS hr hvl
 go_enter Tryz.func29, Tryz.ntmps29
 go_wp2_with fail
 generalize (((w.alloc (.cells #[.slice sp P.length cp, .slice sc lc cc, .slice sm lm cm, .slice sg G.length cg] 44)).alloc (.cells #[S a, S b] 63)).alloc (.cells #[.slice none 0 0, .slice none 0 0, .slice none 0 0, .slice none 0 0] 44)) = V at *
 have HO := Lib.hid HO
 have HVs := Lib.hid hVs
 obtain ⟨b0, hb0⟩ : ∃ b, b = w.heap.size := ⟨_, rfl⟩
 have Hb0 := Lib.hid hb0
 rw [← hb0] at x0 x1 x2 x3 xa xb HO HVs ⊢
 clear hb0 hVs
 refine (hck.out _ hX).mono ?_
 rintro e X1 ⟨rfl, hE1⟩
 have e1 := hX.trans hE1
 replace HO := Lib.hid (HO.out.ext hE1)
 have HVs := Lib.hid (show b0 + 1 + 1 + 1 ≤ X1.heap.size by have := HVs.out; have := hE1.size; omega)
 clear hck hX
 replace x0 := hE1.cell x0
 replace x1 := hE1.cell x1
 replace x2 := hE1.cell x2
 replace x3 := hE1.cell x3
 replace xa := hE1.cell xa
 replace xb := hE1.cell xb
 clear hE1
 go_wp2_with fail
 refine (hfc.out _ e1).mono ?_
 rintro e X2 ⟨rfl, hE2⟩
 have e2 := e1.trans hE2
 replace HO := Lib.hid (HO.out.ext hE2)
 have HVs := Lib.hid (show b0 + 1 + 1 + 1 ≤ X2.heap.size by have := HVs.out; have := hE2.size; omega)
 clear hfc e1
 replace x0 := hE2.cell x0
 replace x1 := hE2.cell x1
 replace x2 := hE2.cell x2
 replace x3 := hE2.cell x3
 replace xa := hE2.cell xa
 replace xb := hE2.cell xb
 clear hE2
 by_cases hf : frE a b = 0
 case neg =>
  have hf2 := (frE_cases a b).resolve_left hf
  have Hf := Lib.hid hf
  rw [hf2]
  obtain ⟨Hr6, He6, Hg6⟩ := set4 e2 (by have := Hb0.out; omega) HO.out (.slice none 0 0) (.slice none 0 0) (.slice none 0 0) (.slice none 0 0)
  have r0 := Hr6.cell (j := 0) (by simp)
  have r1 := Hr6.cell (j := 1) (by simp)
  have r2 := Hr6.cell (j := 2) (by simp)
  have r3 := Hr6.cell (j := 3) (by simp)
  simp only [List.getElem_cons_zero, List.getElem_cons_succ] at r0 r1 r2 r3
  have f0 := (HO.out).frozen 0
  have f1 := (HO.out).frozen 1
  have f2 := (HO.out).frozen 2
  have f3 := (HO.out).frozen 3
  have m0 := (HO.out).cell (j := 0) (by simp)
  have m1 := (HO.out).cell (j := 1) (by simp)
  have m2 := (HO.out).cell (j := 2) (by simp)
  have m3 := (HO.out).cell (j := 3) (by simp)
  simp only [List.getElem_cons_zero, List.getElem_cons_succ] at m0 m1 m2 m3
  have Hres := Lib.hid (show StrPost w P C M G a b (.returned (.tuple #[tuZ, .int .i64 2])) _ from .inl ⟨Hf.out, rfl, He6⟩)
  clear Hr6 He6 Hg6 HO hf hf2
  go_wp2_with fail
  refine bodyPost_ret (v := .tuple #[tuZ, .int .i64 2]) (by simp [results, Tryz.results29, go_sem, r0, r1, r2, r3]) rfl Hres.out
 obtain ⟨n, d, hfo⟩ := frE_zero hf
 obtain ⟨k, hkn, hkd⟩ := frOK_rat hfo
 have hea : a = Lib.itoa k.num := by rw [hkn]; exact hfo.1
 have heb : b = Lib.itoa k.den := by rw [hkd]; exact hfo.2.1
 have hkq : NdQ 40 k := by
  have h1 := itoa_length k.num
  have h2 := itoa_length k.den
  rw [← hea] at h1
  rw [← heb] at h2
  exact ⟨by omega, by omega⟩
 have Hk := Lib.hid hkq
 have Hres := Lib.hid (fun (e : Ending) W (hm : MdPost w P C M (strG G k P.length) e W) => show StrPost w P C M G a b e W from .inr ⟨k, hea, heb, hf, hm⟩)
 rw [hf]
 generalize StrPost w P C M G a b = POST at *
 rw [show S a = I k.num by rw [hea]] at xa
 rw [show S b = I k.den by rw [heb]] at xb
 have hclN : ∀ l ∈ strG G k P.length, l.length = P.length := fun l hl => by
  obtain ⟨l0, _, rfl⟩ := List.mem_map.1 hl
  simp
 have hndN : ∀ l ∈ strG G k P.length, ∀ r ∈ l, NdQ 400 r := fun l hl => by
  obtain ⟨l0, hl0, rfl⟩ := List.mem_map.1 hl
  exact cmb_nd (E := 30) (F := 40) (fun s hs => by
   simp only [List.mem_cons, List.not_mem_nil, or_false] at hs
   subst hs
   exact shQ_nd (Hsh.out _ hl0) (Nat.le_refl _)) (fun r hr => by
   simp only [List.mem_cons, List.not_mem_nil, or_false] at hr
   subst hr; exact hkq) (by omega) (by omega) (by simp)
 have Hmd := Lib.hid (fun W va vl vc (hW : Ext w W) (hv : GnR W (.slice va vl vc) (strG G k P.length)) => made_any (HT.out.ext hW) hv (by rw [strG_length]; exact Hln.out) hclN hndN (HL.out.ext hW))
 clear hf hfo hkn hkd hea heb hkq hclN hndN
 have HY4 := own4 X2 44 (.slice sp P.length cp) (.slice sc lc cc) (.slice sm lm cm) (.slice none 0 0)
 have eA := (Ext.refl X2).alloc (.cells #[.slice sp P.length cp, .slice sc lc cc, .slice sm lm cm, .slice none 0 0] 44)
 have hYs : (X2.alloc (.cells #[.slice sp P.length cp, .slice sc lc cc, .slice sm lm cm, .slice none 0 0] 44)).heap.size = X2.heap.size + 1 := by simp
 have yx0 := eA.cell x0
 have yx1 := eA.cell x1
 have yx2 := eA.cell x2
 have yx3 := eA.cell x3
 have yxa := eA.cell xa
 have yxb := eA.cell xb
 go_wp2_with fail
 clear x0 x1 x2 x3 xa xb
 have x0 := yx0
 clear yx0
 have x1 := yx1
 clear yx1
 have x2 := yx2
 clear yx2
 have x3 := yx3
 clear yx3
 have xa := yxa
 clear yxa
 have xb := yxb
 clear yxb
 generalize (X2.alloc (.cells #[.slice sp P.length cp, .slice sc lc cc, .slice sm lm cm, .slice none 0 0] 44)) = Y at *
 have HY4 := Lib.hid HY4
 have HYs := Lib.hid hYs
 obtain ⟨b3, hb3⟩ : ∃ b, b = X2.heap.size := ⟨_, rfl⟩
 have Hb3 := Lib.hid (show b0 + 1 + 1 + 1 ≤ b3 by have := HVs.out; omega)
 rw [← hb3] at HY4 HYs ⊢
 have eY := e2.trans eA
 replace HO := Lib.hid (HO.out.ext eA)
 clear hb3 hYs eA e2 HVs
 go_loopw [26] (fun iv wr => ∃ (i : Nat) (gv : Value), i ≤ G.length ∧ iv = .int .i64 i ∧ Hid (OwnV 44 b3 wr b3 4 [.slice sp P.length cp, .slice sc lc cc, .slice sm lm cm, gv]) ∧ Hid (GnO (b3 + 1) wr gv ((strG G k P.length).take i)) ∧ Hid (Below b3 Y wr)) (fun iv _ => G.length - (intOf iv).toNat)
 case atStart => exact ⟨0, _, by omega, by go_num, HY4, Lib.hid (GnO.nil _ _), Lib.hid (Below.refl _ _)⟩
 case round =>
  obtain ⟨i, gv, hi, rfl, HO4, HGN, HB4⟩ := hrel
  generalize wr = Z at *
  have hZs2 : b3 + 1 ≤ Z.heap.size := by have := HYs.out; have := HB4.out.size; omega
  have HZs := Lib.hid hZs2
  have eZ := Lib.hid (show Ext w Z from Below.trans eY (HB4.out.mono (by have := Hb0.out; have := Hb3.out; omega)))
  have HO3 := HO4.out.cell (j := 3) (by simp)
  simp only [List.getElem_cons_zero, List.getElem_cons_succ] at HO3
  have z0 : Z.cell? ⟨b0, 0, none⟩ = some (.slice sp P.length cp) := by rw [Below.cell HB4.out (show b0 < b3 by have := Hb3.out; omega)]; exact x0
  have za : Z.cell? ⟨b0 + 1, 0, none⟩ = some (I k.num) := by rw [Below.cell HB4.out (show b0 + 1 < b3 by have := Hb3.out; omega)]; exact xa
  have zb : Z.cell? ⟨b0 + 1, 1, none⟩ = some (I k.den) := by rw [Below.cell HB4.out (show b0 + 1 < b3 by have := Hb3.out; omega)]; exact xb
  clear hZs2
  by_cases hlt : i < G.length
  ·have hii : (i : Int) < (G.length : Int) := by omega
   have hiv : i < vs.length := by rw [HV.out]; exact hlt
   obtain rfl := HS.out.addr (by omega)
   have c0 := eZ.out.cell (HS.out.cell i _ (List.getElem?_eq_getElem hiv))
   have hsz := HR.out i hlt hiv
   obtain ⟨xa', xc', ex⟩ := szR_slc hsz
   rw [ex, Hcl.out _ (List.getElem_mem hlt)] at c0 hsz
   have Hsz := Lib.hid hsz
   have hsk := Lib.hid (strG_snoc (k := k) (n := P.length) hlt)
   have Hsl := Lib.hid (Hsh.out _ (List.getElem_mem hlt))
   have Hcll := Lib.hid (Hcl.out _ (List.getElem_mem hlt))
   obtain ⟨l, hl⟩ : ∃ l, l = G[i] := ⟨_, rfl⟩
   rw [← hl] at Hsz hsk Hsl Hcll
   obtain ⟨ga, gc, rfl⟩ := HGN.out.slice
   have Htl := Lib.hid (show ((strG G k P.length).take i).length = i by rw [List.length_take, strG_length]; omega)
   rw [Htl.out] at HO3 HO4 HGN
   have Hcb := Lib.hid (fun W v fv (hW : Ext w W) (hv : GnR W v [l]) (hfv : SzR W fv [k]) => combine_any (pa := sp) (np := P.length) (cp := cp) hv hfv (fun s hs => by
    simp only [List.mem_cons, List.not_mem_nil, or_false] at hs
    subst hs; exact Hcll.out) (by simp) (fun s hs => by
    simp only [List.mem_cons, List.not_mem_nil, or_false] at hs
    subst hs; exact shQ_nd Hsl.out (by omega)) (fun r hr => by
    simp only [List.mem_cons, List.not_mem_nil, or_false] at hr
    subst hr; exact Hk.out.mono (by omega)) (by omega) (by simp) (HL.out.ext hW))
   clear hsz ex hl hiv hlt
   go_wp2_with fail
   have d0E : Ext Z Z.drew := (Ext.refl Z).drew
   have d0 : Below (b3 + 1) Z Z.drew := Below.mono d0E HZs.out
   refine wp_region_held_tail (S := fun W => Below (b3 + 1) Z W) 12 (by kernel_rfl) (by simp) ?_
   intro inv
   generalize Z.drew = Z1 at *
   refine wpAnyLH_take (i := 0) (v := .pointer (some ⟨b3, 3, none⟩)) rfl (by kernel_rfl) (fun _ _ _ h => h) (.inl ⟨by rfl, fun W hW => by go_simp⟩) d0 inv ?_
   intro inv
   go_simp
   refine wpAnyLH_take (i := 1) (v := .slice ga i gc) rfl (by kernel_rfl) (fun _ _ _ h => h) (.inl ⟨by rfl, fun W hW => by have q0 := (Below.cell hW (show b3 < b3 + 1 by have := Hb3.out; omega)).trans HO3; go_simp⟩) d0 inv ?_
   intro inv
   go_simp
   refine wpAnyLH_take (i := 2) (v := .pointer (some ⟨b0, 0, none⟩)) rfl (by kernel_rfl) (fun _ _ _ h => h) (.inl ⟨by rfl, fun W hW => by go_simp⟩) d0 inv ?_
   intro inv
   go_simp
   refine wpAnyLH_take (i := 3) (v := .pointer (some ⟨b0, 0, none⟩)) rfl (by kernel_rfl) (fun _ _ _ h => h) (.inl ⟨by rfl, fun W hW => by go_simp⟩) d0 inv ?_
   intro inv
   go_simp
   refine wpAnyLH_take (i := 4) (v := .slice sp P.length cp) rfl (by kernel_rfl) (fun _ _ _ h => h) (.inl ⟨by rfl, fun W hW => by have q0 := (Below.cell hW (show b0 < b3 + 1 by have := Hb3.out; omega)).trans z0; go_simp⟩) d0 inv ?_
   intro inv
   go_simp
   refine wpAnyLH_take (i := 5) (v := .slice xa' P.length xc') rfl (by kernel_rfl) (fun _ _ _ h => h) (.inl ⟨by rfl, fun W hW => by go_simp⟩) d0 inv ?_
   intro inv
   go_simp
   refine wpAnyLH_take (i := 7) (v := .agg #[I k.num, I k.den]) rfl (by kernel_rfl) (fun _ _ _ h => h) (.inl ⟨by rfl, fun W hW => by have q0 := (Below.cell hW (show b0 + 1 < b3 + 1 by have := Hb3.out; omega)).trans za; have q1 := (Below.cell hW (show b0 + 1 < b3 + 1 by have := Hb3.out; omega)).trans zb; go_simp⟩) d0 inv ?_
   intro inv
   go_simp
   refine wpAnyLH_twoII (i := 6) (j := 8) rfl rfl (by kernel_rfl) inv (fun inv K0 hK0 => ?_) (fun inv K0 hK0 => ?_)
   ·go_simp
    refine hK0 _ _ (Below.mono (d0E.alloc (.cells #[.slice xa' P.length xc'] 52)) HZs.out) ?_
    clear hK0
    refine wpAnyLH_oneI (i := 8) rfl (by kernel_rfl) inv (fun inv K0 hK0 => ?_)
    go_simp
    have d1E : Ext Z ((Z1.alloc (.cells #[.slice xa' P.length xc'] 52)).alloc (.cells #[I k.num, I k.den] 63)) := (d0E.alloc (.cells #[.slice xa' P.length xc'] 52)).alloc (.cells #[I k.num, I k.den] 63)
    have d1 : Below (b3 + 1) Z ((Z1.alloc (.cells #[.slice xa' P.length xc'] 52)).alloc (.cells #[I k.num, I k.den] 63)) := Below.mono d1E HZs.out
    have HGn := Lib.hid (show GnR ((Z1.alloc (.cells #[.slice xa' P.length xc'] 52)).alloc (.cells #[I k.num, I k.den] 63)) (.slice (some ⟨Z1.heap.size, 0, none⟩) 1 1) [l] from gn1N (by go_simp) ((Hsz.out.ext eZ.out).ext d1E))
    have HSz := Lib.hid (show SzR ((Z1.alloc (.cells #[.slice xa' P.length xc'] 52)).alloc (.cells #[I k.num, I k.den] 63)) (.slice (some ⟨Z1.heap.size + 1, 0, none⟩) 1 1) [k] from sz1N (by go_simp) (by go_simp))
    refine hK0 _ _ d1 ?_
    clear hK0
    generalize hW2 : World.alloc (World.alloc Z1 _) _ = W2 at *
    clear hW2
    refine wpAnyLH_oneI (i := 9) rfl (by kernel_rfl) inv (fun inv K0 hK0 => ?_)
    go_simp
    refine (Hcb.out _ _ _ (eZ.out.trans d1E) HGn.out HSz.out).mono ?_
    rintro e Z3 ⟨⟨gq, rfl, _, hO⟩, hE3⟩
    have d2E := d1E.trans hE3
    have d2 : Below (b3 + 1) Z Z3 := Below.mono d2E HZs.out
    have Hv := Lib.hid (show SzV (b3 + 1) Z3 (slv gq P.length P.length) (cmbQ [l] [k] P.length) by
     have := hO.val
     rw [cmbQ_length] at this
     exact this.mono (by have := d1E.size; have := HZs.out; omega))
    refine hK0 _ _ d2 ?_
    clear hK0 hO
    refine wpAnyLH_oneI (i := 10) rfl (by kernel_rfl) inv (fun inv K0 hK0 => ?_)
    go_simp
    have d3E := d2E.alloc (.cells #[slv gq P.length P.length] 52)
    have d3 : Below (b3 + 1) Z (Z3.alloc (.cells #[slv gq P.length P.length] 52)) := Below.mono d3E HZs.out
    refine hK0 _ _ d3 ?_
    clear hK0
    refine wpAnyLH_oneI (i := 11) rfl (by kernel_rfl) inv (fun inv K0 hK0 => ?_)
    refine app_gn_step (by rfl) _ _ 42 Tryz.underlying42 (by rfl) (by rfl) (HGN.out.ext d3E) (b := Z3.heap.size) (by rfl) (u := slv gq P.length P.length) (r := cmbQ [l] [k] P.length) (by go_simp) (Hv.out.ext ((Ext.refl _).alloc _)) (by rw [Htl.out]; omega) (by have := d3E.size; have := HZs.out; omega) ?_
    intro g9 c9 W9 hO9 hB9 hG9
    rw [Htl.out] at hO9 ⊢
    rw [hsk.out] at hO9
    have d9 := d3.trans hB9
    refine hK0 _ _ d9 ?_
    clear hK0
    refine wpAnyLH_end (by kernel_rfl) ?_
    have HO9 := Lib.hid (HO4.out.below d9 (by omega))
    have e0 := HO9.out.cell (j := 3) (by simp)
    simp only [List.getElem_cons_zero, List.getElem_cons_succ] at e0
    have f0 := HO9.out.frozen 3
    obtain ⟨h4, g4⟩ := OwnV.set HO9.out 3 (slv g9 (i + 1) c9)
    have H4 := Lib.hid h4
    have G4 := Lib.hid (GnO.kept hO9 g4 (by omega))
    have B4 := Lib.hid (Below.grown (HB4.out.trans (Below.mono d9 (by omega))) g4 (by have := (HB4.out.trans (Below.mono d9 (by omega))).size; have := HYs.out; omega) (fun q hq => by injection hq with hq; omega))
    clear hO9 hB9 hG9 h4 g4 inv d0 d0E d1 d1E d2 d2E d3 d3E hE3 HO9 HO3 z0 za zb Hcb
    go_wp2_with fail
    go_roundw
    case rel => exact ⟨i + 1, _, by omega, by go_num, H4, G4, B4⟩
    case measure => simp [intOf] <;> omega
   ·go_simp
    refine hK0 _ _ (Below.mono (d0E.alloc (.cells #[I k.num, I k.den] 63)) HZs.out) ?_
    clear hK0
    refine wpAnyLH_oneI (i := 6) rfl (by kernel_rfl) inv (fun inv K0 hK0 => ?_)
    go_simp
    have d1E : Ext Z ((Z1.alloc (.cells #[I k.num, I k.den] 63)).alloc (.cells #[.slice xa' P.length xc'] 52)) := (d0E.alloc (.cells #[I k.num, I k.den] 63)).alloc (.cells #[.slice xa' P.length xc'] 52)
    have d1 : Below (b3 + 1) Z ((Z1.alloc (.cells #[I k.num, I k.den] 63)).alloc (.cells #[.slice xa' P.length xc'] 52)) := Below.mono d1E HZs.out
    have HGn := Lib.hid (show GnR ((Z1.alloc (.cells #[I k.num, I k.den] 63)).alloc (.cells #[.slice xa' P.length xc'] 52)) (.slice (some ⟨Z1.heap.size + 1, 0, none⟩) 1 1) [l] from gn1N (by go_simp) ((Hsz.out.ext eZ.out).ext d1E))
    have HSz := Lib.hid (show SzR ((Z1.alloc (.cells #[I k.num, I k.den] 63)).alloc (.cells #[.slice xa' P.length xc'] 52)) (.slice (some ⟨Z1.heap.size, 0, none⟩) 1 1) [k] from sz1N (by go_simp) (by go_simp))
    refine hK0 _ _ d1 ?_
    clear hK0
    generalize hW2 : World.alloc (World.alloc Z1 _) _ = W2 at *
    clear hW2
    refine wpAnyLH_oneI (i := 9) rfl (by kernel_rfl) inv (fun inv K0 hK0 => ?_)
    go_simp
    refine (Hcb.out _ _ _ (eZ.out.trans d1E) HGn.out HSz.out).mono ?_
    rintro e Z3 ⟨⟨gq, rfl, _, hO⟩, hE3⟩
    have d2E := d1E.trans hE3
    have d2 : Below (b3 + 1) Z Z3 := Below.mono d2E HZs.out
    have Hv := Lib.hid (show SzV (b3 + 1) Z3 (slv gq P.length P.length) (cmbQ [l] [k] P.length) by
     have := hO.val
     rw [cmbQ_length] at this
     exact this.mono (by have := d1E.size; have := HZs.out; omega))
    refine hK0 _ _ d2 ?_
    clear hK0 hO
    refine wpAnyLH_oneI (i := 10) rfl (by kernel_rfl) inv (fun inv K0 hK0 => ?_)
    go_simp
    have d3E := d2E.alloc (.cells #[slv gq P.length P.length] 52)
    have d3 : Below (b3 + 1) Z (Z3.alloc (.cells #[slv gq P.length P.length] 52)) := Below.mono d3E HZs.out
    refine hK0 _ _ d3 ?_
    clear hK0
    refine wpAnyLH_oneI (i := 11) rfl (by kernel_rfl) inv (fun inv K0 hK0 => ?_)
    refine app_gn_step (by rfl) _ _ 42 Tryz.underlying42 (by rfl) (by rfl) (HGN.out.ext d3E) (b := Z3.heap.size) (by rfl) (u := slv gq P.length P.length) (r := cmbQ [l] [k] P.length) (by go_simp) (Hv.out.ext ((Ext.refl _).alloc _)) (by rw [Htl.out]; omega) (by have := d3E.size; have := HZs.out; omega) ?_
    intro g9 c9 W9 hO9 hB9 hG9
    rw [Htl.out] at hO9 ⊢
    rw [hsk.out] at hO9
    have d9 := d3.trans hB9
    refine hK0 _ _ d9 ?_
    clear hK0
    refine wpAnyLH_end (by kernel_rfl) ?_
    have HO9 := Lib.hid (HO4.out.below d9 (by omega))
    have e0 := HO9.out.cell (j := 3) (by simp)
    simp only [List.getElem_cons_zero, List.getElem_cons_succ] at e0
    have f0 := HO9.out.frozen 3
    obtain ⟨h4, g4⟩ := OwnV.set HO9.out 3 (slv g9 (i + 1) c9)
    have H4 := Lib.hid h4
    have G4 := Lib.hid (GnO.kept hO9 g4 (by omega))
    have B4 := Lib.hid (Below.grown (HB4.out.trans (Below.mono d9 (by omega))) g4 (by have := (HB4.out.trans (Below.mono d9 (by omega))).size; have := HYs.out; omega) (fun q hq => by injection hq with hq; omega))
    clear hO9 hB9 hG9 h4 g4 inv d0 d0E d1 d1E d2 d2E d3 d3E hE3 HO9 HO3 z0 za zb Hcb
    go_wp2_with fail
    go_roundw
    case rel => exact ⟨i + 1, _, by omega, by go_num, H4, G4, B4⟩
    case measure => simp [intOf] <;> omega
  ·obtain rfl : i = G.length := by omega
   have hii : ¬ (G.length : Int) < (G.length : Int) := by omega
   have o0 := HO4.out.cell (j := 0) (by simp)
   have o1 := HO4.out.cell (j := 1) (by simp)
   have o2 := HO4.out.cell (j := 2) (by simp)
   have o3 := HO3
   simp only [List.getElem_cons_zero, List.getElem_cons_succ] at o0 o1 o2
   have HOZ := Lib.hid (HO.out.below HB4.out (by have := Hb3.out; omega))
   obtain ⟨ga, gc, rfl⟩ := HGN.out.slice
   have Htl := Lib.hid (show ((strG G k P.length).take G.length) = strG G k P.length by rw [List.take_of_length_le (by simp)])
   rw [Htl.out] at HGN o3
   rw [strG_length] at o3
   have hm := Lib.hid (Hmd.out Z _ _ _ eZ.out HGN.out.read)
   rw [strG_length] at hm
   clear HO3 z0 za zb Hmd hlt HO4 HB4
   go_wp2_with fail
   refine hm.out.mono ?_
   rintro e Z3 ⟨hE3, (⟨hall, t, rfl, hTR⟩ | ⟨hno, rfl⟩)⟩
   ·obtain ⟨tsp, tcp, tsc, tlc, tcc, tsm, tlm, tcm, tsg, tlg, tcg, rfl, hTV⟩ := hTR
    have e3 := eZ.out.trans hE3
    have H2 := HOZ.out.ext hE3
    obtain ⟨Hr6, He6, Hg6⟩ := set4 e3 (by have := Hb0.out; omega) H2 (.slice tsp P.length tcp) (.slice tsc tlc tcc) (.slice tsm tlm tcm) (.slice tsg tlg tcg)
    have r0 := Hr6.cell (j := 0) (by simp)
    have r1 := Hr6.cell (j := 1) (by simp)
    have r2 := Hr6.cell (j := 2) (by simp)
    have r3 := Hr6.cell (j := 3) (by simp)
    simp only [List.getElem_cons_zero, List.getElem_cons_succ] at r0 r1 r2 r3
    have f0 := (H2).frozen 0
    have f1 := (H2).frozen 1
    have f2 := (H2).frozen 2
    have f3 := (H2).frozen 3
    have m0 := (H2).cell (j := 0) (by simp)
    have m1 := (H2).cell (j := 1) (by simp)
    have m2 := (H2).cell (j := 2) (by simp)
    have m3 := (H2).cell (j := 3) (by simp)
    simp only [List.getElem_cons_zero, List.getElem_cons_succ] at m0 m1 m2 m3
    have Hres2 := Lib.hid (Hres.out (.returned (.tuple #[tuS P tsp tcp tsc tlc tcc tsm tlm tcm tsg tlg tcg, .int .i64 0])) _ ⟨He6, .inl ⟨hall, _, rfl, _, _, _, _, _, _, _, _, _, _, _, rfl, tuV_keep hTV H2 Hg6⟩⟩)
    clear Hr6 He6 Hg6 H2 HOZ hTV Hres
    replace Hres := Hres2
    clear Hres2
    go_wp2_with fail
    refine bodyPost_ret (v := .tuple #[tuS P tsp tcp tsc tlc tcc tsm tlm tcm tsg tlg tcg, .int .i64 0]) (by simp [results, Tryz.results29, go_sem, r0, r1, r2, r3]) rfl Hres.out
   ·have e3 := eZ.out.trans hE3
    have H2 := HOZ.out.ext hE3
    obtain ⟨Hr6, He6, Hg6⟩ := set4 e3 (by have := Hb0.out; omega) H2 (.slice none 0 0) (.slice none 0 0) (.slice none 0 0) (.slice none 0 0)
    have r0 := Hr6.cell (j := 0) (by simp)
    have r1 := Hr6.cell (j := 1) (by simp)
    have r2 := Hr6.cell (j := 2) (by simp)
    have r3 := Hr6.cell (j := 3) (by simp)
    simp only [List.getElem_cons_zero, List.getElem_cons_succ] at r0 r1 r2 r3
    have f0 := (H2).frozen 0
    have f1 := (H2).frozen 1
    have f2 := (H2).frozen 2
    have f3 := (H2).frozen 3
    have m0 := (H2).cell (j := 0) (by simp)
    have m1 := (H2).cell (j := 1) (by simp)
    have m2 := (H2).cell (j := 2) (by simp)
    have m3 := (H2).cell (j := 3) (by simp)
    simp only [List.getElem_cons_zero, List.getElem_cons_succ] at m0 m1 m2 m3
    have Hres2 := Lib.hid (Hres.out (.returned (.tuple #[tuZ, .int .i64 4])) _ ⟨He6, .inr ⟨hno, rfl⟩⟩)
    clear Hr6 He6 Hg6 H2 HOZ Hres
    replace Hres := Hres2
    clear Hres2
    go_wp2_with fail
    refine bodyPost_ret (v := .tuple #[tuZ, .int .i64 4]) (by simp [results, Tryz.results29, go_sem, r0, r1, r2, r3]) rfl Hres.out
def shfG (G : List (List Rat)) (q : List Rat) (at' : Int) (n : Nat) : List (List Rat) := (List.range G.length).map fun i => cmbQ [G.getD i [], q] [1, if (i : Int) = at' then 1 else 0] n
@[simp] theorem shfG_length (G : List (List Rat)) (q : List Rat) (t : Int) (n : Nat) : (shfG G q t n).length = G.length := by simp [shfG]
theorem sz2M {W : World} {b : Nat} {r0 r1 : Rat} (h0 : W.cell? ⟨b, 0, none⟩ = some (I r0.num)) (h1 : W.cell? ⟨b, 1, none⟩ = some (I r0.den)) (h2 : W.cell? ⟨b, 2, none⟩ = some (I r1.num)) (h3 : W.cell? ⟨b, 3, none⟩ = some (I r1.den)) : SzR W (.slice (some ⟨b, 0, none⟩) 2 2) [r0, r1] := by
 refine ⟨_, b, 0, 2, rfl, Nat.le_refl _, fun _ => rfl, fun i hi => ?_⟩
 have hi3 : i < 2 := hi
 rcases (show i = 0 ∨ i = 1 by omega) with rfl | rfl
 ·exact ⟨h0, h1⟩
 ·exact ⟨h2, h3⟩
theorem list6_getD_ext {a b : List Int} (hl : a.length = b.length) (h : ∀ j, j < a.length → a.getD j 0 = b.getD j 0) : a = b := by
 apply List.ext_getElem hl
 intro i h1 h2
 have := h i h1
 rwa [getD_get h1, getD_get h2] at this
theorem mx_getD_ext {a b : Mx} (hl : a.length = b.length) (h : ∀ j, j < a.length → a.getD j [] = b.getD j []) : a = b := by
 apply List.ext_getElem hl
 intro i h1 h2
 have := h i h1
 rwa [getD_get h1, getD_get h2] at this
set_option maxHeartbeats 1000000 in
theorem eqRows6_any {w : World} {va vb : Value} {a b : List Int} (hA : RowR w va a) (hB : RowR w vb b) (hbig : a.length ≤ 1000000) :
  Calls Tryz.prog 140 #[va, vb] w fun e w' => e = .returned (.bool (decide (a = b))) ∧ Ext w w' := by
 obtain ⟨sa, ga, oa, ca, rfl, hca, hSa⟩ := hA
 obtain ⟨sb, gb, ob, cb, rfl, hcb, hSb⟩ := hB
 by_cases hl : a.length = b.length
 ·obtain ⟨n, hn⟩ : ∃ n, n = a.length := ⟨_, rfl⟩
  rw [← hl]
  rw [← hn] at hbig ⊢
  have HA := Lib.hid hSa
  have HB := Lib.hid hSb
  have Hn := Lib.hid hn
  have Hm := Lib.hid (hn.trans hl)
  clear hSa hSb hl hn hca hcb
  go_enter Tryz.func140, Tryz.ntmps140
  go_wp2_with fail
  go_loopw [5] (fun idx wr => ∃ i : Nat, i ≤ n ∧ idx = .int .i64 i ∧ Hid (∀ j, j < i → a.getD j 0 = b.getD j 0) ∧ Ext w wr) (fun idx _ => n - (intOf idx).toNat)
  case atStart => exact ⟨0, by omega, by go_num, Lib.hid (fun j h => by omega), Ext.refl _⟩
  case round =>
   obtain ⟨i, hi, rfl, Hz, hE⟩ := hrel
   generalize wr = X at *
   by_cases hlt : i < n
   ·have hii : (i : Int) < (n : Int) := by omega
    have c1 := (HA.out.ext hE).cell i (.int .i64 (a[i]'(by rw [← Hn.out]; exact hlt))) (is_get (by rw [← Hn.out]; exact hlt))
    have c2 := (HB.out.ext hE).cell i (.int .i64 (b[i]'(by rw [← Hm.out]; exact hlt))) (is_get (by rw [← Hm.out]; exact hlt))
    obtain rfl := HA.out.addr (by rw [is_length, ← Hn.out]; omega)
    obtain rfl := HB.out.addr (by rw [is_length, ← Hm.out]; omega)
    obtain ⟨x, hx⟩ : ∃ x, x = a[i]'(by rw [← Hn.out]; exact hlt) := ⟨_, rfl⟩
    obtain ⟨y, hy⟩ : ∃ y, y = b[i]'(by rw [← Hm.out]; exact hlt) := ⟨_, rfl⟩
    rw [← hx] at c1
    rw [← hy] at c2
    have Hx := Lib.hid (show a.getD i 0 = x by rw [hx, getD_get (by rw [← Hn.out]; exact hlt)])
    have Hy := Lib.hid (show b.getD i 0 = y by rw [hy, getD_get (by rw [← Hm.out]; exact hlt)])
    clear hx hy
    by_cases hxy : x = y
    ·subst hxy
     go_wp2_with fail
     go_quiet (fail)
     go_wp2_with fail
     go_roundw
     case rel => exact ⟨i + 1, by omega, by go_num, Lib.hid (fun j hj => by
      by_cases e : j = i
      ·subst e; rw [Hx.out, Hy.out]
      ·exact Hz.out j (by omega)), hE.drewN _⟩
     case measure => simp [intOf] <;> omega
    ·have hb1 : (x == y) = false := beq_eq_false_iff_ne.2 hxy
     have hb2 : (x != y) = true := by simp [bne, hb1]
     have Hne := Lib.hid (show decide (a = b) = false from decide_eq_false (fun e => hxy (by rw [← Hx.out, ← Hy.out, e])))
     go_wp2_with fail
     go_quiet (fail)
     go_wp2_with fail
     go_ret
     exact ⟨by rw [Hne.out]; rfl, hE.drewN _⟩
   ·have Heq := Lib.hid (show decide (a = b) = true from decide_eq_true (list6_getD_ext (by rw [← Hn.out, ← Hm.out]) (fun j hj => Hz.out j (by rw [← Hn.out] at hj; omega))))
    go_wp2_with fail
    go_ret
    exact ⟨by rw [Heq.out]; rfl, hE⟩
 ·have hne : decide (a = b) = false := decide_eq_false (fun e => hl (by rw [e]))
  rw [hne]
  have h1 : ¬ ((a.length : Int) = (b.length : Int)) := by omega
  have h2 : ((a.length : Int) == (b.length : Int)) = false := beq_eq_false_iff_ne.2 h1
  have h3 : ((a.length : Int) != (b.length : Int)) = true := by simp [bne, h2]
  clear hSa hSb hca hcb hne
  generalize a.length = n at *
  generalize b.length = m at *
  go_enter Tryz.func140, Tryz.ntmps140
  go_wp2_with fail
  go_ret
  exact ⟨rfl, Ext.refl _⟩
set_option maxHeartbeats 1000000 in
theorem equal6_any {w : World} {va vb : Value} {A B : Mx} (hA : MatR w va A) (hB : MatR w vb B) (hbig : A.length ≤ 1000000) (hbr : ∀ r ∈ A, r.length ≤ 1000000) :
  Calls Tryz.prog 141 #[va, vb] w fun e w' => e = .returned (.bool (decide (A = B))) ∧ Ext w w' := by
 obtain ⟨sa, ga, oa, ca, va', rfl, hca, hvA, hSa, hrA⟩ := hA
 obtain ⟨sb, gb, ob, cb, vb', rfl, hcb, hvB, hSb, hrB⟩ := hB
 by_cases hl : A.length = B.length
 ·obtain ⟨n, hn⟩ : ∃ n, n = A.length := ⟨_, rfl⟩
  rw [← hl]
  rw [← hn] at hbig ⊢
  have HA := Lib.hid hSa
  have HB := Lib.hid hSb
  have HvA := Lib.hid hvA
  have HvB := Lib.hid hvB
  have HrA := Lib.hid hrA
  have HrB := Lib.hid hrB
  have Hn := Lib.hid hn
  have Hm := Lib.hid (hn.trans hl)
  clear hSa hSb hl hn hca hcb hvA hvB hrA hrB
  go_enter Tryz.func141, Tryz.ntmps141
  go_wp2_with fail
  go_loopw [5] (fun idx wr => ∃ i : Nat, i ≤ n ∧ idx = .int .i64 i ∧ Hid (∀ j, j < i → A.getD j [] = B.getD j []) ∧ Ext w wr) (fun idx _ => n - (intOf idx).toNat)
  case atStart => exact ⟨0, by omega, by go_num, Lib.hid (fun j h => by omega), Ext.refl _⟩
  case round =>
   obtain ⟨i, hi, rfl, Hz, hE⟩ := hrel
   generalize wr = X at *
   by_cases hlt : i < n
   ·have hii : (i : Int) < (n : Int) := by omega
    have hiA : i < A.length := by rw [← Hn.out]; exact hlt
    have hiB : i < B.length := by rw [← Hm.out]; exact hlt
    obtain ⟨sx, bx, ox, cx, hrx, hcx, hSx⟩ := MatR.row HA.out HvA.out HrA.out hiA
    obtain ⟨sy, by', oy, cy, hry, hcy, hSy⟩ := MatR.row HB.out HvB.out HrB.out hiB
    obtain rfl := HA.out.addr (by rw [HvA.out]; omega)
    obtain rfl := HB.out.addr (by rw [HvB.out]; omega)
    have k1 := cell_regrown (hE.cell hrx)
    have k2 := cell_regrown (hE.cell hry)
    have hx1 : RowR X (.slice sx A[i].length cx) A[i] := ⟨sx, bx, ox, cx, rfl, hcx, hSx.ext hE⟩
    have hy1 : RowR X (.slice sy B[i].length cy) B[i] := ⟨sy, by', oy, cy, rfl, hcy, hSy.ext hE⟩
    obtain ⟨lx, hlx⟩ : ∃ l, l = A[i].length := ⟨_, rfl⟩
    obtain ⟨ly, hly⟩ : ∃ l, l = B[i].length := ⟨_, rfl⟩
    rw [← hlx] at k1 hx1
    rw [← hly] at k2 hy1
    clear hlx hly
    have hEQ := Lib.hid (fun V (hV : Ext X V) => eqRows6_any (w := V) (hx1.ext hV) (hy1.ext hV) (hbr _ (List.getElem_mem hiA)))
    have HxA := Lib.hid (show A.getD i [] = A[i] from getD_get hiA [])
    have HxB := Lib.hid (show B.getD i [] = B[i] from getD_get hiB [])
    obtain ⟨q, hq⟩ : ∃ q, q = decide (A[i] = B[i]) := ⟨_, rfl⟩
    rw [← hq] at hEQ
    have bE := Lib.hid (quietC (w := X) (fun V hV => hEQ.out V hV))
    have Hq := Lib.hid hq
    clear hrx hry hcx hcy hSx hSy hq hx1 hy1 hEQ
    cases q
    ·have Hne := Lib.hid (show decide (A = B) = false from decide_eq_false (fun e => by
      have := Hq.out.symm
      rw [decide_eq_false_iff_not] at this
      exact this (by rw [← HxA.out, ← HxB.out, e])))
     clear Hq HxA HxB
     go_wp2_with fail
     refine wp_region_quiet_below (by kernel_rfl) (by kernel_rfl) ?_
     repeat (quiet_step (exact bE.out _ _))
     refine wpQuiet_nil ?_
     intro _ hw'
     obtain ⟨⟨dq, osq⟩, hw''⟩ := hw'
     subst hw''
     have hE2 := hE.trans (ext_regrown X dq osq)
     clear k1 k2 bE
     generalize hW6 : grow (redrawn _ _) _ = W6 at *
     clear hW6
     go_wp2_with fail
     go_ret
     exact ⟨by rw [Hne.out]; rfl, hE2⟩
    ·have Hok := Lib.hid (show A.getD i [] = B.getD i [] by rw [HxA.out, HxB.out]; exact of_decide_eq_true Hq.out.symm)
     clear Hq HxA HxB
     go_wp2_with fail
     refine wp_region_quiet_below (by kernel_rfl) (by kernel_rfl) ?_
     repeat (quiet_step (exact bE.out _ _))
     refine wpQuiet_nil ?_
     intro _ hw'
     obtain ⟨⟨dq, osq⟩, hw''⟩ := hw'
     subst hw''
     have hE2 := hE.trans (ext_regrown X dq osq)
     clear k1 k2 bE
     generalize hW6 : grow (redrawn _ _) _ = W6 at *
     clear hW6
     go_wp2_with fail
     go_roundw
     case rel => exact ⟨i + 1, by omega, by go_num, Lib.hid (fun j hj => by
      by_cases e : j = i
      ·subst e; exact Hok.out
      ·exact Hz.out j (by omega)), hE2⟩
     case measure => simp [intOf] <;> omega
   ·have Heq := Lib.hid (show decide (A = B) = true from decide_eq_true (mx_getD_ext (by rw [← Hn.out, ← Hm.out]) (fun j hj => Hz.out j (by rw [← Hn.out] at hj; omega))))
    go_wp2_with fail
    go_ret
    exact ⟨by rw [Heq.out]; rfl, hE⟩
 ·have hne : decide (A = B) = false := decide_eq_false (fun e => hl (by rw [e]))
  rw [hne]
  have h1 : ¬ ((A.length : Int) = (B.length : Int)) := by omega
  have h2 : ((A.length : Int) == (B.length : Int)) = false := beq_eq_false_iff_ne.2 h1
  have h3 : ((A.length : Int) != (B.length : Int)) = true := by simp [bne, h2]
  clear hSa hSb hca hcb hne hrA hrB hvA hvB
  generalize A.length = n at *
  generalize B.length = m at *
  go_enter Tryz.func141, Tryz.ntmps141
  go_wp2_with fail
  go_ret
  exact ⟨rfl, Ext.refl _⟩
end Go.Proofs.YtedlgnoiojcjaaaGreatDoor
