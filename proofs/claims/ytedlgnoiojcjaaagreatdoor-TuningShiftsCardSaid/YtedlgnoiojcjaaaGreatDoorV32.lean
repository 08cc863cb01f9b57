/- Part 32 of the proof of the claim: contracts of the functions that it reaches, and plain laws; no condition. -/
import Derived.Test.YtedlgnoiojcjaaaGreatDoorV28
import Derived.Test.YtedlgnoiojcjaaaGreatDoorV31
import Derived.Test.YtedlgnoiojcjaaaGreatDoorV01
import Derived.Test.YtedlgnoiojcjaaaGreatDoorV26
set_option maxRecDepth 100000
namespace Go.Proofs.YtedlgnoiojcjaaaGreatDoor
open Go.RowKit Go.Sort
theorem own_off {B q : Nat} {w w' : World} {T : TypeId} {size n : Nat} {u : Value} {xs : List Value} (h : w.ownsRow B T size u n xs) (hG : w.grownBy w' (some q)) (hq : ∀ g, u.ownBlock = some g → g ≠ q) : w'.ownsRow B T size u n xs := by
 refine World.ownsRow.kept h hG ?_
 cases hu : u.ownBlock with
 | none => exact .inl rfl
 | some g => exact .inr (fun h2 => hq g hu (by injection h2))
theorem rowV_off {B : Nat} {w w' : World} {v : Value} {r : List Int} {q : Nat} (h : RowV B w v r) (hG : w.grownBy w' (some q)) (hq : q < B) : RowV B w' v r :=
 own_off h hG (fun g hg => by have := (World.ownsRow.lt h g hg).1; omega)
theorem matO_off {B q : Nat} {w w' : World} {v : Value} {F : Mx} (h : MatO B w v F) (hG : w.grownBy w' (some q)) (hq : q < B) : MatO B w' v F := by
 obtain ⟨vs, h1, h2, h3⟩ := h
 exact ⟨vs, h1, own_off h2 hG (fun g hg => by have := (World.ownsRow.lt h2 g hg).1; omega), fun t a b => rowV_off (h3 t a b) hG hq⟩
theorem ownV_off {T : TypeId} {B g c q : Nat} {w w' : World} {xs : List Value} (h : OwnV T B w g c xs) (hG : w.grownBy w' (some q)) (hq : g ≠ q) : OwnV T B w' g c xs := own_off h hG (fun g' hg => by
 have : g' = g := by simpa [slv, Value.ownBlock] using hg.symm
 rw [this]; exact hq)
theorem szR_slc {w : World} {v : Value} {l : List Rat} (h : SzR w v l) : ∃ a c, v = .slice a l.length c := by
 obtain ⟨a, b, g0, c, e, _⟩ := h
 exact ⟨a, c, e⟩
theorem matO_slc {B : Nat} {w : World} {v : Value} {F : Mx} (h : MatO B w v F) : ∃ a k, v = .slice a F.length k := by
 obtain ⟨vs, h1, h2, h3⟩ := h
 rcases h2.2 with ⟨rfl, h0⟩ | ⟨g, cap, cur, rfl, _⟩
 ·exact ⟨_, _, by rw [h0]⟩
 ·exact ⟨_, _, rfl⟩
abbrev tuZ : Value := .agg #[.slice none 0 0, .slice none 0 0, .slice none 0 0, .slice none 0 0]
theorem tuV_keep {w : World} {P : List Int} {C M : Mx} {G : List (List Rat)} {sp : Option Addr} {cp : Nat} {sc : Option Addr} {lc cc : Nat} {sm : Option Addr} {lm cm : Nat} {sg : Option Addr} {lg cg : Nat} {T : TypeId} {B b : Nat} {w' : World} (h : TuV w P C M G sp cp sc lc cc sm lm cm sg lg cg) (ho : OwnV T B w b 4 [.slice none 0 0, .slice none 0 0, .slice none 0 0, .slice none 0 0]) (hg : w.grownBy w' (some b)) : TuV w' P C M G sp cp sc lc cc sm lm cm sg lg cg := by
 obtain ⟨psC, hIC⟩ := h.tm.ok.kC.1
 obtain ⟨psM, hIM⟩ := h.tm.ok.kM.1
 have hp0 := h.tm.ok.p0
 exact ⟨TmV.mk h.tm.ok (row_off h.tm.hP ho hg) (mat_off h.tm.hC (fun r hr => by rw [hIC.rect r hr]; exact hp0) ho hg) (mat_off h.tm.hM (fun r hr => by rw [hIM.rect r hr]; exact hp0) ho hg), gn_off h.gn (fun r hr => by rw [h.cl r hr]; exact hp0) ho hg, h.ln, h.cl, h.sh⟩
def MdPost (w : World) (P : List Int) (C M : Mx) (G : List (List Rat)) (e : Ending) (w' : World) : Prop :=
 Ext w w' ∧ (((∀ l ∈ G, szE l = 0) ∧ ∃ t, e = .returned (.tuple #[t, .int .i64 0]) ∧ TuR w' t P C M G) ∨ ((∃ l ∈ G, szE l ≠ 0) ∧ e = .returned (.tuple #[tuZ, .int .i64 4])))
set_option maxHeartbeats 8000000 in
theorem made_any {w : World} {P : List Int} {C M : Mx} {G : List (List Rat)} {sp : Option Addr} {cp : Nat} {sc : Option Addr} {lc cc : Nat} {sm : Option Addr} {lm cm : Nat} {sg : Option Addr} {lg cg : Nat} (hT : TmV w P C M M sp cp sc lc cc sm lm cm) (hG : GnR w (.slice sg lg cg) G) (hln : G.length = M.length) (hcl : ∀ l ∈ G, l.length = P.length) (hnd : ∀ l ∈ G, ∀ r ∈ l, NdQ 400 r) (hL : Laid w) :
  Calls Tryz.prog 72 #[tuS P sp cp sc lc cc sm lm cm sg lg cg] w (MdPost w P C M G) := by
 have hp4 := hT.ok.p4
 have hp0 := hT.ok.p0
 have hm4 := hT.m4
 have hlg := hG.len
 have hg4 : G.length ≤ 4 := by omega
 subst hlg
 have hpc := Lib.hid hT.pchk
 have hpcl := Lib.hid (fun W (hW : Ext w W) => pcln_any (hT.hP.ext hW) hp0 (by omega))
 obtain ⟨psC, hIC⟩ := hT.ok.kC.1
 obtain ⟨psM, hIM⟩ := hT.ok.kM.1
 have hlC := isH_len hIC
 have hcC := Lib.hid (fun W (hW : Ext w W) => mcopied_any (hT.hC.ext hW) (fun r hr => by rw [hIC.rect r hr]; omega) (by omega))
 have hcM := Lib.hid (fun W (hW : Ext w W) => mcopied_any (hT.hM.ext hW) (fun r hr => by rw [hIM.rect r hr]; omega) (by omega))
 have Hok := Lib.hid hT.ok
 have HL := Lib.hid hL
 have HG0 := Lib.hid hG
 have Hln := Lib.hid hln
 have Hcl := Lib.hid hcl
 have Hnd := Lib.hid hnd
 obtain ⟨sg', gg, go, cg', vs, eg, hgc, hvl, hS, hr⟩ := hG
 injection eg with q1 q2 q3
 subst q1 q3
 have HS := Lib.hid hS
 have HV := Lib.hid hvl
 have HR := Lib.hid hr
 have hX0 := (Ext.refl w).alloc (.cells #[.slice sp P.length cp, .slice sc lc cc, .slice sm lm cm, .slice sg G.length cg] 44)
 have hX := hX0.alloc (.cells #[.slice none 0 0, .slice none 0 0, .slice none 0 0, .slice none 0 0] 44)
 have HB0 := own4 w 44 (.slice sp P.length cp) (.slice sc lc cc) (.slice sm lm cm) (.slice sg G.length cg)
 have HO := own4 (w.alloc (.cells #[.slice sp P.length cp, .slice sc lc cc, .slice sm lm cm, .slice sg G.length cg] 44)) 44 (.slice none 0 0) (.slice none 0 0) (.slice none 0 0) (.slice none 0 0)
 rw [show (w.alloc (.cells #[.slice sp P.length cp, .slice sc lc cc, .slice sm lm cm, .slice sg G.length cg] 44)).heap.size = w.heap.size + 1 by simp] at HO
 replace HB0 := HB0.ext ((Ext.refl _).alloc (.cells #[.slice none 0 0, .slice none 0 0, .slice none 0 0, .slice none 0 0] 44))
 have hVs : ((w.alloc (.cells #[.slice sp P.length cp, .slice sc lc cc, .slice sm lm cm, .slice sg G.length cg] 44)).alloc (.cells #[.slice none 0 0, .slice none 0 0, .slice none 0 0, .slice none 0 0] 44)).heap.size = w.heap.size + 1 + 1 := by simp
 clear hS hr hvl hT hL hcl hnd hln hIC hIM hX0
 go_enter Tryz.func72, Tryz.ntmps72
 go_wp2_with fail
 generalize ((w.alloc (.cells #[.slice sp P.length cp, .slice sc lc cc, .slice sm lm cm, .slice sg G.length cg] 44)).alloc (.cells #[.slice none 0 0, .slice none 0 0, .slice none 0 0, .slice none 0 0] 44)) = V at *
 have HB0 := Lib.hid HB0
 have HO := Lib.hid HO
 have HVs := Lib.hid hVs
 clear hVs
 obtain ⟨b0, hb0⟩ : ∃ b, b = w.heap.size := ⟨_, rfl⟩
 have Hb0 := Lib.hid hb0
 rw [← hb0] at HB0 HO HVs ⊢
 clear hb0
 go_loopw [13] (fun iv wr => ∃ i : Nat, i ≤ G.length ∧ iv = .int .i64 i ∧ Hid (∀ t (h : t < G.length), t < i → szE G[t] = 0) ∧ Ext V wr) (fun iv _ => G.length - (intOf iv).toNat)
 case atStart => exact ⟨0, by omega, by go_num, Lib.hid (fun t _ h => by omega), Ext.refl _⟩
 case round =>
  obtain ⟨i, hi, rfl, HA, hE⟩ := hrel
  generalize wr = Y at *
  have eY := hX.trans hE
  have HBY := Lib.hid (HB0.out.ext hE)
  have HOY := Lib.hid (HO.out.ext hE)
  have o0 := HBY.out.cell (j := 0) (by simp)
  have o1 := HBY.out.cell (j := 1) (by simp)
  have o2 := HBY.out.cell (j := 2) (by simp)
  have o3 := HBY.out.cell (j := 3) (by simp)
  simp only [List.getElem_cons_zero, List.getElem_cons_succ] at o0 o1 o2 o3
  have m0 := HOY.out.cell (j := 0) (by simp)
  have m1 := HOY.out.cell (j := 1) (by simp)
  have m2 := HOY.out.cell (j := 2) (by simp)
  have m3 := HOY.out.cell (j := 3) (by simp)
  simp only [List.getElem_cons_zero, List.getElem_cons_succ] at m0 m1 m2 m3
  have n0 := HOY.out.frozen 0
  have n1 := HOY.out.frozen 1
  have n2 := HOY.out.frozen 2
  have n3 := HOY.out.frozen 3
  by_cases hlt : i < G.length
  ·have hii : (i : Int) < (G.length : Int) := by omega
   have hiv : i < vs.length := by rw [HV.out]; exact hlt
   obtain rfl := HS.out.addr (by omega)
   have c0 := eY.cell (HS.out.cell i _ (List.getElem?_eq_getElem hiv))
   have hsz := (HR.out i hlt hiv).ext eY
   have hl := Hcl.out _ (List.getElem_mem hlt)
   have hn := Hnd.out _ (List.getElem_mem hlt)
   obtain ⟨xa, xc, ex⟩ := szR_slc hsz
   rw [ex] at c0 hsz
   have Hyes := Lib.hid (fun (h : szE G[i] = 0) t (ht : t < G.length) (hti : t < i + 1) => show szE G[t] = 0 by
    by_cases e : t = i
    ·subst e; exact h
    ·exact HA.out t ht (by omega))
   have Hno := Lib.hid (fun (h : szE G[i] ≠ 0) => show ∃ l ∈ G, szE l ≠ 0 from ⟨_, List.getElem_mem hlt, h⟩)
   rw [hl] at c0 hsz
   have hyes := Lib.hid (fun (h : szE G[i] = 0) => tuResult_yes (pa := sp) (cp := cp) h (fun W hW => hpc.out W (eY.trans hW)) hsz hl hn (by omega) (HL.out.ext eY))
   have hno := Lib.hid (fun (h : szE G[i] ≠ 0) => tuResult_no (pa := sp) (cp := cp) h (fun W hW => hpc.out W (eY.trans hW)) hsz hl hn (by omega) (HL.out.ext eY))
   obtain ⟨l, hle⟩ : ∃ l, l = G[i] := ⟨_, rfl⟩
   rw [← hle] at Hyes Hno hyes hno
   clear hsz hl hn ex hle HA hiv
   by_cases h0 : szE l = 0
   ·have hrs := Lib.hid (hyes.out h0)
    have HA := Lib.hid (Hyes.out h0)
    clear hyes hno Hyes Hno h0
    go_wp2_with fail
    refine hrs.out.mono ?_
    rintro e W ⟨rfl, hE2⟩
    have e2 := hE.trans hE2
    go_wp2_with fail
    go_roundw
    case rel => exact ⟨i + 1, by omega, by go_num, HA, e2⟩
    case measure => simp [intOf] <;> omega
   ·have hrs := Lib.hid (hno.out h0)
    have HN := Lib.hid (Hno.out h0)
    clear hyes hno Hyes Hno h0 m0 m1 m2 m3 n0 n1 n2 n3
    go_wp2_with fail
    refine hrs.out.mono ?_
    rintro e W ⟨rfl, hE2⟩
    have eW := eY.trans hE2
    have HO9 := HOY.out.ext hE2
    obtain ⟨Hr6, He6, Hg6⟩ := set4 eW (by have := Hb0.out; omega) HO9 (.slice none 0 0) (.slice none 0 0) (.slice none 0 0) (.slice none 0 0)
    have r0 := Hr6.cell (j := 0) (by simp)
    have r1 := Hr6.cell (j := 1) (by simp)
    have r2 := Hr6.cell (j := 2) (by simp)
    have r3 := Hr6.cell (j := 3) (by simp)
    simp only [List.getElem_cons_zero, List.getElem_cons_succ] at r0 r1 r2 r3
    have f0 := (HO9).frozen 0
    have f1 := (HO9).frozen 1
    have f2 := (HO9).frozen 2
    have f3 := (HO9).frozen 3
    have m0 := (HO9).cell (j := 0) (by simp)
    have m1 := (HO9).cell (j := 1) (by simp)
    have m2 := (HO9).cell (j := 2) (by simp)
    have m3 := (HO9).cell (j := 3) (by simp)
    simp only [List.getElem_cons_zero, List.getElem_cons_succ] at m0 m1 m2 m3
    have Hres := Lib.hid (show MdPost w P C M G (.returned (.tuple #[tuZ, .int .i64 4])) _ from ⟨He6, .inr ⟨HN.out, rfl⟩⟩)
    clear Hr6 He6 Hg6 HO9
    go_wp2_with fail
    refine bodyPost_ret (v := .tuple #[tuZ, .int .i64 4]) (by simp [results, Tryz.results72, go_sem, r0, r1, r2, r3]) rfl Hres.out
  ·obtain rfl : i = G.length := by omega
   have hii : ¬ (G.length : Int) < (G.length : Int) := by omega
   have HA0 := Lib.hid (show ∀ l ∈ G, szE l = 0 from fun l hl => by
    obtain ⟨t, ht, rfl⟩ := List.getElem_of_mem hl
    exact HA.out t ht ht)
   have eB := (Ext.refl Y).alloc (.cells #[.slice sp P.length cp, .slice sc lc cc, .slice sm lm cm] 41)
   have y0 : (Y.alloc (.cells #[.slice sp P.length cp, .slice sc lc cc, .slice sm lm cm] 41)).cell? ⟨Y.heap.size, 0, none⟩ = some (.slice sp P.length cp) := by go_simp
   have y1 : (Y.alloc (.cells #[.slice sp P.length cp, .slice sc lc cc, .slice sm lm cm] 41)).cell? ⟨Y.heap.size, 1, none⟩ = some (.slice sc lc cc) := by go_simp
   have y2 : (Y.alloc (.cells #[.slice sp P.length cp, .slice sc lc cc, .slice sm lm cm] 41)).cell? ⟨Y.heap.size, 2, none⟩ = some (.slice sm lm cm) := by go_simp
   clear HA hlt hi m0 m1 m2 m3 n0 n1 n2 n3
   go_wp2_with fail
   have eZ := eY.trans eB
   have HBZ := Lib.hid (HBY.out.ext eB)
   have HOZ := Lib.hid (HOY.out.ext eB)
   have hZs : b0 + 1 + 1 ≤ (Y.alloc (.cells #[.slice sp P.length cp, .slice sc lc cc, .slice sm lm cm] 41)).heap.size := by
    have h1 := (hE.trans eB).size
    have h2 := HVs.out
    omega
   have HZs := Lib.hid hZs
   generalize Y.alloc (.cells #[.slice sp P.length cp, .slice sc lc cc, .slice sm lm cm] 41) = Z at *
   generalize Y.heap.size = b9 at *
   clear eY hE HBY HOY o0 o1 o2 o3 eB hZs hX
   have d0 : Ext Z Z.drew := (Ext.refl Z).drew
   refine wp_region_held_tail (S := fun W => Ext Z W) 12 (by kernel_rfl) (by simp) ?_
   intro inv
   generalize Z.drew = Z1 at *
   refine wpAnyLH_take (i := 0) (v := .pointer (some ⟨b9, 0, none⟩)) rfl (by kernel_rfl) (fun _ _ _ h => h) (.inl ⟨by rfl, fun W hW => by go_simp⟩) d0 inv ?_
   intro inv
   go_simp
   refine wpAnyLH_take (i := 1) (v := .slice sp P.length cp) rfl (by kernel_rfl) (fun _ _ _ h => h) (.inl ⟨by rfl, fun W hW => by have z0 := hW.cell y0; go_simp⟩) d0 inv ?_
   intro inv
   go_simp
   refine wpAnyLH_take (i := 3) (v := .func (.func 123) #[] #[]) rfl (by kernel_rfl) (fun _ _ _ h => h) (.inl ⟨by rfl, fun W hW => by go_simp⟩) d0 inv ?_
   intro inv
   go_simp
   refine wpAnyLH_take (i := 4) (v := .pointer (some ⟨b9, 1, none⟩)) rfl (by kernel_rfl) (fun _ _ _ h => h) (.inl ⟨by rfl, fun W hW => by go_simp⟩) d0 inv ?_
   intro inv
   go_simp
   refine wpAnyLH_take (i := 5) (v := .slice sc lc cc) rfl (by kernel_rfl) (fun _ _ _ h => h) (.inl ⟨by rfl, fun W hW => by have z0 := hW.cell y1; go_simp⟩) d0 inv ?_
   intro inv
   go_simp
   refine wpAnyLH_take (i := 7) (v := .func (.func 123) #[] #[]) rfl (by kernel_rfl) (fun _ _ _ h => h) (.inl ⟨by rfl, fun W hW => by go_simp⟩) d0 inv ?_
   intro inv
   go_simp
   refine wpAnyLH_take (i := 8) (v := .pointer (some ⟨b9, 2, none⟩)) rfl (by kernel_rfl) (fun _ _ _ h => h) (.inl ⟨by rfl, fun W hW => by go_simp⟩) d0 inv ?_
   intro inv
   go_simp
   refine wpAnyLH_take (i := 9) (v := .slice sm lm cm) rfl (by kernel_rfl) (fun _ _ _ h => h) (.inl ⟨by rfl, fun W hW => by have z0 := hW.cell y2; go_simp⟩) d0 inv ?_
   intro inv
   go_simp
   refine wpAnyLH_oneI (i := 2) rfl (by kernel_rfl) inv (fun inv K0 hK0 => ?_)
   go_simp
   refine (hpcl.out _ (eZ.trans d0)).mono ?_
   rintro e Z2 ⟨g1, c1, rfl, hO1, hG1⟩
   have d1 := d0.trans hG1
   have HP1 := Lib.hid ((own_rowV hO1).mono d0.size)
   refine hK0 _ _ d1 ?_
   clear hK0 hO1
   refine wpAnyLH_oneI (i := 6) rfl (by kernel_rfl) inv (fun inv K0 hK0 => ?_)
   go_simp
   refine (hcC.out _ (eZ.trans d1)).mono ?_
   rintro e Z3 ⟨u1, rfl, hO2, hG2⟩
   have d2 := d1.trans hG2
   have HC1 := Lib.hid (hO2.mono d1.size)
   obtain ⟨ca, ck, rfl⟩ := matO_slc hO2
   refine hK0 _ _ d2 ?_
   clear hK0 hO2
   refine wpAnyLH_oneI (i := 10) rfl (by kernel_rfl) inv (fun inv K0 hK0 => ?_)
   go_simp
   refine (hcM.out _ (eZ.trans d2)).mono ?_
   rintro e Z4 ⟨u2, rfl, hO3, hG3⟩
   have d3 := d2.trans hG3
   have HM1 := Lib.hid (hO3.mono d2.size)
   obtain ⟨ma, mk, rfl⟩ := matO_slc hO3
   refine hK0 _ _ d3 ?_
   clear hK0 hO3
   refine wpAnyLH_oneI (i := 11) rfl (by kernel_rfl) inv (fun inv K0 hK0 => ?_)
   go_simp
   refine hK0 _ _ d3 ?_
   clear hK0
   refine wpAnyLH_end (by kernel_rfl) ?_
   have HB4 := HBZ.out.ext d3
   have HO4 := HOZ.out.ext d3
   have o0 := HB4.cell (j := 0) (by simp)
   have o1 := HB4.cell (j := 1) (by simp)
   have o2 := HB4.cell (j := 2) (by simp)
   have o3 := HB4.cell (j := 3) (by simp)
   simp only [List.getElem_cons_zero, List.getElem_cons_succ] at o0 o1 o2 o3
   have k0 := HB4.frozen 0
   have k1 := HB4.frozen 1
   have k2 := HB4.frozen 2
   obtain ⟨s1, t1⟩ := HB4.set 0 (slv g1 P.length c1)
   obtain ⟨s2, t2⟩ := s1.set 1 (.slice ca C.length ck)
   obtain ⟨s3, t3⟩ := s2.set 2 (.slice ma M.length mk)
   have tt := grown_trans (grown_trans t1 t2) t3
   simp only [List.set_cons_zero, List.set_cons_succ] at s3
   have HP4 := Lib.hid (rowV_off ((HP1.out.ext hG2).ext hG3) tt (by have := HZs.out; omega))
   have HC4 := Lib.hid (matO_off (HC1.out.ext hG3) tt (by have := HZs.out; omega))
   have HM4 := Lib.hid (matO_off HM1.out tt (by have := HZs.out; omega))
   have HO5 := Lib.hid (ownV_off HO4 tt (by omega))
   have e5 := Lib.hid (ext_trans_grown (eZ.trans d3) tt (by have := Hb0.out; omega))
   have p0 := s3.cell (j := 0) (by simp)
   have p1 := s3.cell (j := 1) (by simp)
   have p2 := s3.cell (j := 2) (by simp)
   have p3 := s3.cell (j := 3) (by simp)
   simp only [List.getElem_cons_zero, List.getElem_cons_succ] at p0 p1 p2 p3
   clear s1 s2 s3 t1 t2 t3 tt HB4 HO4 HBZ HOZ HP1 HC1 HM1 inv d0 d1 d2 d3 hG1 hG2 hG3 y0 y1 y2 hpcl hcC hcM
   obtain ⟨Hr6, He6, Hg6⟩ := set4 e5.out (by have := Hb0.out; omega) HO5.out (slv g1 P.length c1) (.slice ca C.length ck) (.slice ma M.length mk) (.slice sg G.length cg)
   have r0 := Hr6.cell (j := 0) (by simp)
   have r1 := Hr6.cell (j := 1) (by simp)
   have r2 := Hr6.cell (j := 2) (by simp)
   have r3 := Hr6.cell (j := 3) (by simp)
   simp only [List.getElem_cons_zero, List.getElem_cons_succ] at r0 r1 r2 r3
   have f0 := HO5.out.frozen 0
   have f1 := HO5.out.frozen 1
   have f2 := HO5.out.frozen 2
   have f3 := HO5.out.frozen 3
   have m0 := HO5.out.cell (j := 0) (by simp)
   have m1 := HO5.out.cell (j := 1) (by simp)
   have m2 := HO5.out.cell (j := 2) (by simp)
   have m3 := HO5.out.cell (j := 3) (by simp)
   simp only [List.getElem_cons_zero, List.getElem_cons_succ] at m0 m1 m2 m3
   have Hres := Lib.hid (show MdPost w P C M G (.returned (.tuple #[tuS P (some ⟨g1, 0, none⟩) c1 ca C.length ck ma M.length mk sg G.length cg, .int .i64 0])) _ from ⟨He6, .inl ⟨HA0.out, _, rfl, _, _, _, _, _, _, _, _, _, _, _, rfl, ⟨TmV.mk Hok.out (rowV_off HP4.out Hg6 (by have := HZs.out; omega)).row (matO_off HC4.out Hg6 (by have := HZs.out; omega)).mat (matO_off HM4.out Hg6 (by have := HZs.out; omega)).mat, HG0.out.ext He6, Hln.out, Hcl.out, fun l hl => szE_zero (HA0.out l hl)⟩⟩⟩)
   clear Hr6 He6 Hg6 HP4 HC4 HM4 HO5 e5
   go_wp2_with fail
   refine bodyPost_ret (v := .tuple #[tuS P (some ⟨g1, 0, none⟩) c1 ca C.length ck ma M.length mk sg G.length cg, .int .i64 0]) (by simp [results, Tryz.results72, go_sem, r0, r1, r2, r3]) rfl Hres.out
end Go.Proofs.YtedlgnoiojcjaaaGreatDoor
namespace Go.Proofs.YtedlgnoiojcjaaaGreatDoor
def dgtB (c : UInt8) : Bool := decide (48 ≤ c.toNat) && decide (c.toNat ≤ 57)
theorem dgtB_iff {c : UInt8} : dgtB c = true ↔ isDig c := by simp [dgtB, isDig]
def canB (l : List UInt8) : Bool := l.all dgtB && (decide (l.length = 1) || (decide (1 < l.length) && decide ((l.getD 0 0).toNat ≠ 48)))
theorem uint8_ext {a b : UInt8} (h : a.toNat = b.toNat) : a = b := by
 have := congrArg UInt8.ofNat h
 simpa using this
theorem dec_valB : ∀ (n : Nat) (l : List UInt8), l.length = n + 1 → (∀ c ∈ l, isDig c) → (l.length = 1 ∨ (l.getD 0 0).toNat ≠ 48) → Lib.decDigits (valB 0 l) = l
 | 0, l, hl, hd, _ => by
  match l, hl with
  | [c], _ =>
   have h := dv_eq (hd c (by simp))
   rw [valB_cons, valB_nil, Lib.decDigits, dif_pos (by omega)]
   congr 1
   refine uint8_ext ?_
   rw [show 10 * 0 + dv c = dv c by omega, toNat_ofNat_dig h.2.2]
   exact h.2.1.symm
 | n + 1, l, hl, hd, hz => by
  have hne : l ≠ [] := by intro e; subst e; simp at hl
  obtain ⟨a, ha⟩ : ∃ a, a = l.dropLast := ⟨_, rfl⟩
  obtain ⟨d, hdd⟩ : ∃ d, d = l.getLast hne := ⟨_, rfl⟩
  have e : l = a ++ [d] := by rw [ha, hdd]; exact (List.dropLast_concat_getLast hne).symm
  have hal : a.length = n + 1 := by rw [e] at hl; simpa using hl
  have hz' : (l.getD 0 0).toNat ≠ 48 := by
   rcases hz with h | h
   ·omega
   ·exact h
  have hg : l.getD 0 0 = a.getD 0 0 := by
   rw [e]
   rw [List.getD_eq_getElem?_getD, List.getD_eq_getElem?_getD, List.getElem?_append_left (by omega)]
  rw [hg] at hz'
  have ih := dec_valB n a hal (fun c hc => hd c (by rw [e]; simp [hc])) (.inr hz')
  have h := dv_eq (hd d (by rw [e]; simp))
  have h1 : 1 ≤ valB 0 a := by
   rcases Nat.eq_zero_or_pos (valB 0 a) with h0 | h0
   ·rw [h0, dec_zero] at ih
    rw [← ih] at hz'
    exact absurd rfl hz'
   ·exact h0
  rw [e, valB_append, valB_cons, valB_nil, Lib.decDigits, dif_neg (by omega)]
  rw [show (10 * valB 0 a + dv d) / 10 = valB 0 a by omega, show (10 * valB 0 a + dv d) % 10 = dv d by omega, ih]
  congr 2
  refine uint8_ext ?_
  rw [toNat_ofNat_dig h.2.2]
  exact h.2.1.symm
theorem canB_dec (u : Nat) : canB (Lib.decDigits u) = true := by
 obtain ⟨c, t, e, _, hz⟩ := dec_head u
 unfold canB
 rw [List.all_eq_true.2 fun c hc => dgtB_iff.2 (dec_dig u c hc)]
 by_cases h : u = 0
 ·subst h; rw [dec_zero]; rfl
 ·have h2 := hz h
  rw [e]
  simp only [List.getD_eq_getElem?_getD, List.length_cons, List.getElem?_cons_zero, Option.getD_some, Bool.true_and]
  cases t with
  | nil => rfl
  | cons b t => simp [h2]
theorem canB_iff {l : List UInt8} : canB l = true ↔ ∃ u, l = Lib.decDigits u := by
 refine ⟨fun h => ?_, fun ⟨u, e⟩ => by rw [e]; exact canB_dec u⟩
 unfold canB at h
 rw [Bool.and_eq_true, List.all_eq_true, Bool.or_eq_true, Bool.and_eq_true, decide_eq_true_eq, decide_eq_true_eq, decide_eq_true_eq] at h
 obtain ⟨h1, h2⟩ := h
 refine ⟨valB 0 l, (dec_valB (l.length - 1) l ?_ (fun c hc => dgtB_iff.1 (h1 c hc)) ?_).symm⟩
 ·rcases h2 with h | h <;> omega
 ·rcases h2 with h | h
  ·exact .inl h
  ·exact .inr h.2
def sgB (l : List UInt8) : Bool := match l with
 | [] => false
 | c :: _ => decide (c = 45)
def mgL (l : List UInt8) : List UInt8 := if sgB l then l.drop 1 else l
def wcE (l : List UInt8) : Int := if (sgB l && decide (mgL l = [48])) || !(canB (mgL l) && decide ((mgL l).length ≤ 400)) then 2 else 0
theorem wcE_zero {l : List UInt8} (h : wcE l = 0) : ∃ z : Int, l = Lib.itoa z ∧ nd z ≤ 400 := by
 unfold wcE at h
 split at h
 ·cases h
 ·rename_i h2
  simp only [Bool.or_eq_true, Bool.and_eq_true, Bool.not_eq_true', not_or, Bool.not_eq_false, decide_eq_true_eq, not_and] at h2
  obtain ⟨h3, h4, h5⟩ := h2
  obtain ⟨u, hu⟩ := canB_iff.1 h4
  unfold mgL at hu h3 h5
  cases hs : sgB l with
  | false =>
   rw [hs, if_neg (by decide)] at hu h5
   exact ⟨u, by rw [hu, itoa_nat], by rw [hu, Lib.decDigits_length] at h5; exact h5⟩
  | true =>
   rw [hs, if_pos rfl] at hu h3 h5
   have h6 := h3 rfl
   match l, hs with
   | c :: t, hs =>
    have hc : c = 45 := by simpa [sgB] using hs
    rw [List.drop_one, List.tail_cons] at hu h6 h5
    have hu0 : u ≠ 0 := fun e => h6 (by rw [hu, e, dec_zero])
    refine ⟨-(u : Int), ?_, ?_⟩
    ·rw [itoa_neg (by omega), hc, hu, show (-(u : Int)).natAbs = u by omega]
    ·rw [hu, Lib.decDigits_length] at h5
     show Lib.nDigits (-(u : Int)).natAbs ≤ 400
     rw [show (-(u : Int)).natAbs = u by omega]; exact h5
theorem sgB_itoa (z : Int) : sgB (Lib.itoa z) = decide (z < 0) ∧ mgL (Lib.itoa z) = Lib.decDigits z.natAbs := by
 by_cases h : z < 0
 ·rw [itoa_neg h, decide_eq_true h]
  exact ⟨rfl, rfl⟩
 ·rw [itoa_pos (by omega), decide_eq_false h]
  obtain ⟨c, t, e, hd, _⟩ := dec_head z.natAbs
  have : sgB (Lib.decDigits z.natAbs) = false := by
   rw [e]
   refine decide_eq_false fun hc => ?_
   subst hc
   exact absurd hd.1 (by decide)
  unfold mgL
  rw [this]
  exact ⟨rfl, rfl⟩
theorem wcE_itoa {z : Int} (h : nd z ≤ 400) : wcE (Lib.itoa z) = 0 := by
 obtain ⟨h1, h2⟩ := sgB_itoa z
 unfold wcE
 rw [h1, h2, canB_dec, Lib.decDigits_length, decide_eq_true (show Lib.nDigits z.natAbs ≤ 400 from h)]
 by_cases hz : z < 0
 ·have : ¬ Lib.decDigits z.natAbs = [48] := fun e => by
   have h3 := dec_eq_zero z.natAbs
   rw [e] at h3
   have h4 : z.natAbs = 0 := by simpa using h3
   omega
  rw [decide_eq_false this]; simp
 ·rw [decide_eq_false hz]; rfl
def ivB (l : List UInt8) : Int := if sgB l then -(valB 0 (mgL l) : Int) else (valB 0 (mgL l) : Int)
theorem ivB_itoa (z : Int) : ivB (Lib.itoa z) = z := by
 obtain ⟨h1, h2⟩ := sgB_itoa z
 unfold ivB
 rw [h1, h2, valB_dec]
 by_cases hz : z < 0
 ·rw [if_pos (decide_eq_true hz)]; omega
 ·rw [if_neg (by rw [decide_eq_true_eq]; exact hz)]; omega
def FrOK (a b : List UInt8) (n d : Int) : Prop := a = Lib.itoa n ∧ b = Lib.itoa d ∧ nd n ≤ 400 ∧ nd d ≤ 400 ∧ 0 < d ∧ Nat.gcd n.natAbs d.natAbs = 1
def frE (a b : List UInt8) : Int := if wcE a = 0 ∧ wcE b = 0 ∧ 0 < ivB b ∧ Nat.gcd (ivB a).natAbs (ivB b).natAbs = 1 then 0 else 2
theorem frE_zero {a b : List UInt8} (h : frE a b = 0) : ∃ n d, FrOK a b n d := by
 unfold frE at h
 split at h
 ·rename_i h2
  obtain ⟨h3, h4, h5, h6⟩ := h2
  obtain ⟨n, en, hn⟩ := wcE_zero h3
  obtain ⟨d, ed, hd⟩ := wcE_zero h4
  rw [ed, ivB_itoa] at h5
  rw [en, ed, ivB_itoa, ivB_itoa] at h6
  exact ⟨n, d, en, ed, hn, hd, h5, h6⟩
 ·cases h
theorem frE_ok {a b : List UInt8} {n d : Int} (h : FrOK a b n d) : frE a b = 0 := by
 obtain ⟨rfl, rfl, hn, hd, h0, hg⟩ := h
 unfold frE
 rw [if_pos ⟨wcE_itoa hn, wcE_itoa hd, by rw [ivB_itoa]; exact h0, by rw [ivB_itoa, ivB_itoa]; exact hg⟩]
theorem frE_cases (a b : List UInt8) : frE a b = 0 ∨ frE a b = 2 := by
 unfold frE; split
 ·exact .inl rfl
 ·exact .inr rfl
end Go.Proofs.YtedlgnoiojcjaaaGreatDoor
namespace Go.Proofs.YtedlgnoiojcjaaaGreatDoor
open Go.RowKit Go.Sort
theorem split_all {l : List UInt8} (hl : l.length ≤ 1000000000000) (w : World) : Calls Tryz.prog 134 #[S l] w fun e w' => e = .returned (.tuple #[.bool (sgB l), S (mgL l)]) ∧ Ext w w' := by
 match l, hl with
 | [], _ =>
  go_enter Tryz.func134, Tryz.ntmps134
  go_wp2
  go_ret2
  exact ⟨rfl, Ext.refl _⟩
 | c :: t, hl =>
  by_cases h : c = 45
  ·subst h
   have hl : t.length ≤ 1000000000000 := by simp at hl; omega
   rw [show sgB (45 :: t) = true from rfl, show mgL (45 :: t) = t from rfl]
   go_enter Tryz.func134, Tryz.ntmps134
   go_wp2
   go_quiet (fail)
   go_wp2
   go_ret2
   have E := S_extract1 45 t _ rfl
   exact ⟨ret_val (congrArg (fun v => Value.tuple #[.bool true, v]) E), (Ext.refl _).drewN _⟩
  ·have h0 : sgB (c :: t) = false := decide_eq_false h
   have h9 : mgL (c :: t) = c :: t := by unfold mgL; rw [h0]; rfl
   rw [h0, h9]
   have h1 : ((c.toNat : Int) == 45) = false := beq_eq_false_iff_ne.2 (by
    intro e
    exact h (uint8_ext (by show c.toNat = 45; omega)))
   have h2 : (((⟨(c :: t).toArray⟩ : ByteArray)[0]'(by show 0 < (c :: t).toArray.size; simp)).toNat : Int) = c.toNat := rfl
   clear h h0 h9 hl
   go_enter Tryz.func134, Tryz.ntmps134
   go_wp2
   go_ret2
   exact ⟨rfl, Ext.refl _⟩
theorem canB_bad {l : List UInt8} {j : Nat} (hj : j < l.length) (h : ¬ isDig l[j]) : canB l = false := by
 unfold canB
 have : l.all dgtB = false := by
  rw [List.all_eq_false]
  exact ⟨l[j], List.getElem_mem hj, by rw [dgtB_iff]; exact h⟩
 rw [this]; rfl
theorem canB_good {l : List UInt8} (h : ∀ i (hi : i < l.length), isDig l[i]) : canB l = (decide (l.length = 1) || (decide (1 < l.length) && decide ((l.getD 0 0).toNat ≠ 48))) := by
 unfold canB
 rw [List.all_eq_true.2 fun c hc => by
  obtain ⟨i, hi, rfl⟩ := List.getElem_of_mem hc
  exact dgtB_iff.2 (h i hi)]
 rfl
set_option maxHeartbeats 1000000 in
theorem canon_all {l : List UInt8} (hn : l.length ≤ 1000000000000) (w : World) :
  Calls Tryz.prog 185 #[S l] w fun e w' => e = .returned (.bool (canB l)) ∧ Ext w w' := by
 have hcv := fun (w : World) (s : ByteArray) => Lib.run_convert_string_bytes (P := Tryz.prog) w 61 198 5 s Tryz.underlying61 Tryz.underlying198 Tryz.underlying5
 have Hbad := Lib.hid (fun j (hj : j < l.length) (h : ¬ isDig l[j]) => canB_bad hj h)
 have Hgood := Lib.hid (fun (h : ∀ i (hi : i < l.length), isDig l[i]) => canB_good h)
 match l, hn, Hbad, Hgood with
 | [], _, _, _ =>
  go_enter Tryz.func185, Tryz.ntmps185
  go_wp2
  have hEW := ext_bytesWorld w 5 (⟨([] : List UInt8).toArray⟩ : ByteArray)
  go_loop [8] (fun i => i = .int .i64 0) (fun i => 0)
  case atStart => rfl
  case round =>
   subst hrel
   go_wp2
   go_ret
   exact ⟨rfl, hEW⟩
 | c :: l, hn, Hbad, Hgood =>
  generalize canB (c :: l) = B at *
  go_enter Tryz.func185, Tryz.ntmps185
  go_wp2
  have hcl := fun j (hj : j < (c :: l).length) => Lib.bytesWorld_cell w 5 (⟨(c :: l).toArray⟩ : ByteArray) j (by simpa [ByteArray.size] using hj)
  have hEW := ext_bytesWorld w 5 (⟨(c :: l).toArray⟩ : ByteArray)
  have h2 : (((⟨(c :: l).toArray⟩ : ByteArray)[0]'(by show 0 < (c :: l).toArray.size; simp)).toNat : Int) = c.toNat := rfl
  have H2 := Lib.hid h2
  have Hcl := Lib.hid hcl
  clear hcl h2
  go_loop [8] (fun i => ∃ j : Nat, j ≤ (c :: l).length ∧ i = .int .i64 j ∧ Hid (∀ i (hi : i < (c :: l).length), i < j → isDig (c :: l)[i])) (fun i => (c :: l).length - (intOf i).toNat)
  case atStart => exact ⟨0, Nat.zero_le _, rfl, Lib.hid (fun i hi h => by omega)⟩
  case round =>
   obtain ⟨j, hj, rfl, HA⟩ := hrel
   by_cases hlt : j < (c :: l).length
   ·have hcell := Hcl.out j hlt
    rw [show (⟨(c :: l).toArray⟩ : ByteArray).data.toList = c :: l from rfl, List.getD_eq_getElem?_getD, List.getElem?_eq_getElem hlt, Option.getD_some] at hcell
    have Hb := Lib.hid (Hbad.out j hlt)
    have HA2 := Lib.hid (fun (h : isDig (c :: l)[j]) i (hi : i < (c :: l).length) (hij : i < j + 1) => show isDig (c :: l)[i] by
     by_cases e : i = j
     ·subst e; exact h
     ·exact HA.out i hi (by omega))
    have hlI : (j : Int) < (l.length : Int) + 1 := by simp at hlt; omega
    generalize (c :: l)[j] = x at *
    have Hlt := Lib.hid hlt
    clear hlt HA
    by_cases hb1 : (x.toNat : Int) < 48
    ·have H3 := Lib.hid (Hb.out (fun h => by have := h.1; omega))
     clear Hb HA2
     go_wp2
     go_ret
     exact ⟨ret_val (congrArg Value.bool H3.out.symm), hEW⟩
    ·by_cases hb2 : (57 : Int) < (x.toNat : Int)
     ·have H3 := Lib.hid (Hb.out (fun h => by have := h.2; omega))
      clear Hb HA2
      go_wp2
      go_ret
      exact ⟨ret_val (congrArg Value.bool H3.out.symm), hEW⟩
     ·have HA := Lib.hid (HA2.out ⟨by omega, by omega⟩)
      clear Hb HA2
      go_wp2
      go_round
      case rel => exact ⟨j + 1, Hlt.out, by go_num, HA⟩
      case measure => have := Hlt.out; simp [intOf]; omega
   ·have hjM : j = l.length + 1 := by simp at hj hlt; omega
    subst hjM
    have h2 := H2.out
    have HB := Lib.hid (Hgood.out (fun i hi => HA.out i hi (by simpa using hi)))
    clear hlt hj HA Hgood Hbad
    by_cases hl : l = []
    ·subst hl
     go_wp2
     go_ret
     exact ⟨ret_val (congrArg Value.bool (by rw [HB.out]; rfl)), hEW⟩
    ·have hl0 : 0 < l.length := List.length_pos_iff.2 hl
     have hl1 : ((l.length : Int) + 1 == 1) = false := beq_eq_false_iff_ne.2 (by omega)
     have hl2 : (1 : Int) < (l.length : Int) + 1 := by omega
     have HB2 := Lib.hid (show B = decide (c.toNat ≠ 48) by
      rw [HB.out, decide_eq_false (show ¬ (c :: l).length = 1 by simp; omega), decide_eq_true (show 1 < (c :: l).length by simp; omega)]
      simp)
     by_cases h48 : c.toNat = 48
     ·have h49 : ((c.toNat : Int) != 48) = false := by simp [bne, h48]
      rw [decide_eq_false (show ¬ c.toNat ≠ 48 by omega)] at HB2
      clear hl h48 HB
      go_wp2
      go_ret
      exact ⟨ret_val (congrArg Value.bool HB2.out.symm), hEW⟩
     ·have h49 : ((c.toNat : Int) != 48) = true := by simp [bne]; omega
      rw [decide_eq_true (show c.toNat ≠ 48 from h48)] at HB2
      clear hl h48 HB
      go_wp2
      go_ret
      exact ⟨ret_val (congrArg Value.bool HB2.out.symm), hEW⟩
def dcE (l : List UInt8) : Int := if canB l && decide (l.length ≤ 400) then 0 else 2
theorem dcheck_all {l : List UInt8} (hn : l.length ≤ 1000000000000) (w : World) :
  Calls Tryz.prog 135 #[S l] w fun e w' => e = .returned (.int .i64 (dcE l)) ∧ Ext w w' := by
 have hc := Lib.hid (canon_all hn w)
 have Hd := Lib.hid (show dcE l = if canB l && decide (l.length ≤ 400) then 0 else 2 from rfl)
 generalize dcE l = z at *
 generalize canB l = b at *
 cases b
 ·go_enter Tryz.func135, Tryz.ntmps135
  go_wp2_with fail
  refine hc.out.mono ?_
  rintro e w1 ⟨rfl, hE1⟩
  go_wp2_with fail
  go_ret
  exact ⟨ret_val (congrArg (Value.int .i64) (by rw [Hd.out]; rfl)), hE1⟩
 ·by_cases h : l.length ≤ 400
  ·have hI : ¬ (400 : Int) < (l.length : Int) := by omega
   rw [decide_eq_true h] at Hd
   clear h
   go_enter Tryz.func135, Tryz.ntmps135
   go_wp2_with fail
   refine hc.out.mono ?_
   rintro e w1 ⟨rfl, hE1⟩
   go_wp2_with fail
   go_ret
   exact ⟨ret_val (congrArg (Value.int .i64) (by rw [Hd.out]; rfl)), hE1⟩
  ·have hI : (400 : Int) < (l.length : Int) := by omega
   rw [decide_eq_false h] at Hd
   clear h
   go_enter Tryz.func135, Tryz.ntmps135
   go_wp2_with fail
   refine hc.out.mono ?_
   rintro e w1 ⟨rfl, hE1⟩
   go_wp2_with fail
   go_ret
   exact ⟨ret_val (congrArg (Value.int .i64) (by rw [Hd.out]; rfl)), hE1⟩
theorem mgL_len (l : List UInt8) : (mgL l).length ≤ l.length := by
 unfold mgL; split
 ·simp
 ·exact Nat.le_refl _
theorem wcheck_all {l : List UInt8} (hn : l.length ≤ 1000000000000) (w : World) :
  Calls Tryz.prog 79 #[S l] w fun e w' => e = .returned (.int .i64 (wcE l)) ∧ Ext w w' := by
 have hs := Lib.hid (split_all hn w)
 have hd := Lib.hid (fun W => dcheck_all (l := mgL l) (Nat.le_trans (mgL_len l) hn) W)
 have Hw := Lib.hid (show wcE l = if (sgB l && decide (mgL l = [48])) || !(canB (mgL l) && decide ((mgL l).length ≤ 400)) then 2 else 0 from rfl)
 have Hc := Lib.hid (show dcE (mgL l) = if canB (mgL l) && decide ((mgL l).length ≤ 400) then 0 else 2 from rfl)
 have Hq := Lib.hid (show (mgL l == [48]) = decide (mgL l = [48]) by rw [Bool.eq_iff_iff]; simp)
 generalize wcE l = z at *
 generalize sgB l = s at *
 generalize dcE (mgL l) = y at *
 generalize (canB (mgL l) && decide ((mgL l).length ≤ 400)) = b at *
 generalize decide (mgL l = [48]) = q at *
 generalize mgL l = m at *
 have hq := Hq.out
 cases b
 ·have hy : y = 2 := by rw [Hc.out]; rfl
  have hz : z = 2 := by rw [Hw.out]; simp
  subst hy hz
  cases s
  ·go_enter Tryz.func79, Tryz.ntmps79
   go_wp2_with fail
   refine hs.out.mono ?_
   rintro e w1 ⟨rfl, hE1⟩
   go_wp2_with fail
   refine (hd.out _).mono ?_
   rintro e w2 ⟨rfl, hE2⟩
   go_wp2_with fail
   go_ret
   exact ⟨rfl, hE1.trans hE2⟩
  ·cases q
   ·go_enter Tryz.func79, Tryz.ntmps79
    go_wp2_with fail
    refine hs.out.mono ?_
    rintro e w1 ⟨rfl, hE1⟩
    go_wp2_with fail
    refine (hd.out _).mono ?_
    rintro e w2 ⟨rfl, hE2⟩
    go_wp2_with fail
    go_ret
    exact ⟨rfl, hE1.trans hE2⟩
   ·go_enter Tryz.func79, Tryz.ntmps79
    go_wp2_with fail
    refine hs.out.mono ?_
    rintro e w1 ⟨rfl, hE1⟩
    go_wp2_with fail
    go_ret
    exact ⟨rfl, hE1⟩
 ·have hy : y = 0 := by rw [Hc.out]; rfl
  subst hy
  cases s
  ·have hz : z = 0 := by rw [Hw.out]; rfl
   subst hz
   go_enter Tryz.func79, Tryz.ntmps79
   go_wp2_with fail
   refine hs.out.mono ?_
   rintro e w1 ⟨rfl, hE1⟩
   go_wp2_with fail
   refine (hd.out _).mono ?_
   rintro e w2 ⟨rfl, hE2⟩
   go_wp2_with fail
   go_ret
   exact ⟨rfl, hE1.trans hE2⟩
  ·cases q
   ·have hz : z = 0 := by rw [Hw.out]; rfl
    subst hz
    go_enter Tryz.func79, Tryz.ntmps79
    go_wp2_with fail
    refine hs.out.mono ?_
    rintro e w1 ⟨rfl, hE1⟩
    go_wp2_with fail
    refine (hd.out _).mono ?_
    rintro e w2 ⟨rfl, hE2⟩
    go_wp2_with fail
    go_ret
    exact ⟨rfl, hE1.trans hE2⟩
   ·have hz : z = 2 := by rw [Hw.out]; rfl
    subst hz
    go_enter Tryz.func79, Tryz.ntmps79
    go_wp2_with fail
    refine hs.out.mono ?_
    rintro e w1 ⟨rfl, hE1⟩
    go_wp2_with fail
    go_ret
    exact ⟨rfl, hE1⟩
theorem fcheck_all {a b : List UInt8} (hna : a.length ≤ 1000000) (hnb : b.length ≤ 1000000) {w : World} (hL : Laid w) :
  Calls Tryz.prog 30 #[.agg #[S a, S b]] w fun e w' => e = .returned (.int .i64 (frE a b)) ∧ Ext w w' := by
 by_cases h0 : frE a b = 0
 ·obtain ⟨n, d, rfl, rfl, hn, hd, hp, hg⟩ := frE_zero h0
  rw [h0]
  exact fcheck_any hn hd hp hg hL
 ·have h2 : frE a b = 2 := (frE_cases a b).resolve_left h0
  have h1 := Lib.hid (fun W => wcheck_all (l := a) (by omega) W)
  have h3 := Lib.hid (fun W => wcheck_all (l := b) (by omega) W)
  rw [h2]
  have hX : Ext w (w.alloc (.cells #[S a, S b] 63)) := (Ext.refl w).alloc _
  have HO := two_alloc w 63 (S a) (S b)
  have c0 : (w.alloc (.cells #[S a, S b] 63)).cell? ⟨w.heap.size, 0, none⟩ = some (S a) := HO.cell (j := 0) (by simp)
  have c1 : (w.alloc (.cells #[S a, S b] 63)).cell? ⟨w.heap.size, 1, none⟩ = some (S b) := HO.cell (j := 1) (by simp)
  clear HO
  by_cases hwa : wcE a = 0
  ·rw [hwa] at h1
   by_cases hwb : wcE b = 0
   ·rw [hwb] at h3
    obtain ⟨n, rfl, hn⟩ := wcE_zero hwa
    obtain ⟨d, rfl, hd⟩ := wcE_zero hwb
    have h5 := Lib.hid (fun W => Sign_any (z := d) W)
    have h4 := Lib.hid (fun W (hW : Ext w W) => wGcd_any (a := n) (b := d) (by unfold LIM; omega) (by unfold LIM; omega) (hL.ext hW))
    by_cases hp : 0 < d
    ·have hg : ¬ Nat.gcd n.natAbs d.natAbs = 1 := fun hg => h0 (frE_ok ⟨rfl, rfl, hn, hd, hp, hg⟩)
     rw [Int.sign_eq_one_of_pos hp] at h5
     have hone : (Lib.itoa ((Nat.gcd n.natAbs d.natAbs : Nat) : Int) == [49]) = false := beq_eq_false_iff_ne.2 (fun e => hg (by
      have : Lib.itoa ((Nat.gcd n.natAbs d.natAbs : Nat) : Int) = Lib.itoa 1 := by rw [e, itoa_one]
      have := itoa_inj this
      omega))
     have hone2 : (Lib.itoa ((Nat.gcd n.natAbs d.natAbs : Nat) : Int) != [49]) = true := by simp [bne, hone]
     rw [show I ((Nat.gcd n.natAbs d.natAbs : Nat) : Int) = S (Lib.itoa ((Nat.gcd n.natAbs d.natAbs : Nat) : Int)) from rfl] at h4
     generalize Lib.itoa ((Nat.gcd n.natAbs d.natAbs : Nat) : Int) = g at *
     clear hg hp h0 h2 hwa hwb hn hd hna hnb
     have hi : I n = S (Lib.itoa n) := rfl
     have hi2 : I d = S (Lib.itoa d) := rfl
     rw [hi, hi2] at h4
     rw [hi2] at h5
     clear hi hi2
     generalize Lib.itoa n = a at *
     generalize Lib.itoa d = b at *
     go_enter Tryz.func30, Tryz.ntmps30
     go_wp2_with fail
     refine (h1.out _).mono ?_
     rintro e w1 ⟨rfl, hE1⟩
     have c0 := hE1.cell c0
     have c1 := hE1.cell c1
     have e1 := hX.trans hE1
     go_wp2_with fail
     refine (h3.out _).mono ?_
     rintro e w2 ⟨rfl, hE2⟩
     have c0 := hE2.cell c0
     have c1 := hE2.cell c1
     have e2 := e1.trans hE2
     go_wp2_with fail
     refine (h5.out _).mono ?_
     rintro e w3 ⟨rfl, hE3⟩
     have c0 := hE3.cell c0
     have c1 := hE3.cell c1
     have e3 := e2.trans hE3
     go_wp2_with fail
     refine (h4.out _ e3).mono ?_
     rintro e w4 ⟨rfl, hE4⟩
     go_wp2_with fail
     go_ret
     exact ⟨rfl, e3.trans hE4⟩
    ·obtain ⟨s, hs, hs0⟩ : ∃ s : Int, s = d.sign ∧ s ≤ 0 := ⟨_, rfl, by
      rcases Int.lt_trichotomy d 0 with h | h | h
      ·rw [Int.sign_eq_neg_one_of_neg h]; decide
      ·rw [h]; decide
      ·exact absurd h hp⟩
     rw [← hs] at h5
     clear hs hp h0 h2 hwa hwb hn hd hna hnb h4
     have hi2 : I d = S (Lib.itoa d) := rfl
     rw [hi2] at h5
     clear hi2
     generalize Lib.itoa n = a at *
     generalize Lib.itoa d = b at *
     go_enter Tryz.func30, Tryz.ntmps30
     go_wp2_with fail
     refine (h1.out _).mono ?_
     rintro e w1 ⟨rfl, hE1⟩
     have c0 := hE1.cell c0
     have c1 := hE1.cell c1
     have e1 := hX.trans hE1
     go_wp2_with fail
     refine (h3.out _).mono ?_
     rintro e w2 ⟨rfl, hE2⟩
     have c0 := hE2.cell c0
     have c1 := hE2.cell c1
     have e2 := e1.trans hE2
     go_wp2_with fail
     refine (h5.out _).mono ?_
     rintro e w3 ⟨rfl, hE3⟩
     have e3 := e2.trans hE3
     go_wp2_with fail
     go_ret
     exact ⟨rfl, e3⟩
   ·have hwb2 : wcE b = 2 := by
     have : wcE b = 2 ∨ wcE b = 0 := by unfold wcE; split; exact .inl rfl; exact .inr rfl
     exact this.resolve_right hwb
    rw [hwb2] at h3
    clear hwb hwb2 hwa h0 h2 hna hnb
    go_enter Tryz.func30, Tryz.ntmps30
    go_wp2_with fail
    refine (h1.out _).mono ?_
    rintro e w1 ⟨rfl, hE1⟩
    have c0 := hE1.cell c0
    have c1 := hE1.cell c1
    have e1 := hX.trans hE1
    go_wp2_with fail
    refine (h3.out _).mono ?_
    rintro e w2 ⟨rfl, hE2⟩
    go_wp2_with fail
    go_ret
    exact ⟨rfl, e1.trans hE2⟩
  ·have hwa2 : wcE a = 2 := by
    have : wcE a = 2 ∨ wcE a = 0 := by unfold wcE; split; exact .inl rfl; exact .inr rfl
    exact this.resolve_right hwa
   rw [hwa2] at h1
   clear hwa hwa2 h0 h2 h3 hna hnb
   go_enter Tryz.func30, Tryz.ntmps30
   go_wp2_with fail
   refine (h1.out _).mono ?_
   rintro e w1 ⟨rfl, hE1⟩
   go_wp2_with fail
   go_ret
   exact ⟨rfl, hX.trans hE1⟩
def SzT (w : World) (v : Value) (L : List (List UInt8 × List UInt8)) : Prop := ∃ sa gb go cap, v = .slice sa L.length cap ∧ L.length ≤ cap ∧ (0 < L.length → sa = some ⟨gb, go, none⟩) ∧ ∀ i (h : i < L.length), w.cell? ⟨gb, go + i * 2, none⟩ = some (S L[i].1) ∧ w.cell? ⟨gb, go + i * 2 + 1, none⟩ = some (S L[i].2)
theorem SzT.ext {w w' : World} {v : Value} {L : List (List UInt8 × List UInt8)} (h : SzT w v L) (he : Ext w w') : SzT w' v L := by
 obtain ⟨sa, gb, go, cap, e, hc, ha, hr⟩ := h
 exact ⟨sa, gb, go, cap, e, hc, ha, fun i hi => ⟨he.cell (hr i hi).1, he.cell (hr i hi).2⟩⟩
theorem frOK_rat {a b : List UInt8} {n d : Int} (h : FrOK a b n d) : ∃ r : Rat, r.num = n ∧ ((r.den : Nat) : Int) = d := by
 obtain ⟨_, _, _, _, h0, hg⟩ := h
 refine ⟨⟨n, d.toNat, by omega, ?_⟩, rfl, ?_⟩
 ·show Nat.gcd n.natAbs d.toNat = 1
  rw [show d.toNat = d.natAbs by omega]; exact hg
 ·show ((d.toNat : Nat) : Int) = d
  omega
end Go.Proofs.YtedlgnoiojcjaaaGreatDoor
