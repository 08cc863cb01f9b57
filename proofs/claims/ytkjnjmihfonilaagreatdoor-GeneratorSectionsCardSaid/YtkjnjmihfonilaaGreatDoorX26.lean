/- Part 26 of the proof of the claim: contracts of the functions that it reaches, and plain laws; no condition. -/
import Derived.Test.YtkjnjmihfonilaaGreatDoorX25
import Derived.Test.YtkjnjmihfonilaaGreatDoorX08
namespace Go.Proofs.YtkjnjmihfonilaaGreatDoor
open Go.RowKit Go.Sort
def RowsA (w : World) (v : Value) (Z : List (List Int)) : Prop := ∃ sa gb go cap, v = .slice sa Z.length cap ∧ Z.length ≤ cap ∧ (0 < Z.length → sa = some ⟨gb, go, none⟩) ∧ (∀ i (h : i < Z.length), Z[i].length = 4 ∧ ∀ z ∈ Z[i], -128 ≤ z ∧ z ≤ 127) ∧ ∀ i (h : i < Z.length) j (_ : j < 4), w.cell? ⟨gb, go + 4 * i + j, none⟩ = some (.int .i8 (Z[i].getD j 0))
theorem RowsA.ext {w w' : World} {v : Value} {Z : List (List Int)} (h : RowsA w v Z) (he : Ext w w') : RowsA w' v Z := by
  obtain ⟨sa, gb, go, cap, h1, h2, h3, h4, h5⟩ := h
  exact ⟨sa, gb, go, cap, h1, h2, h3, h4, fun i a j b => he.cell (h5 i a j b)⟩
theorem RowV.slice {B : Nat} {w : World} {v : Value} {r : List Int} (h : RowV B w v r) : ∃ a l k, v = .slice a l k := by
  rcases h.2 with ⟨rfl, _⟩ | ⟨g, cap, cur, rfl, _⟩
  · exact ⟨_, _, _, rfl⟩
  · exact ⟨_, _, _, rfl⟩
theorem row_kept {w w' : World} {q g n c : Nat} {r : List Int} (h : RowR w (slv g n c) r) (hG : w.grownBy w' (some q)) (hne : g ≠ q) : RowR w' (slv g n c) r := by
  obtain ⟨sa, gb, go, cap, he, hc, hS⟩ := h
  injection he with e1 e2 e3
  subst e2 e3
  refine ⟨_, gb, go, c, rfl, hc, fun h0 => (by rw [e1]; exact hS.addr h0), fun i x hx => ?_⟩
  have h0 : 0 < (is r).length := by have := (List.getElem?_eq_some_iff.1 hx).1; omega
  have h1 := hS.addr h0
  rw [← e1] at h1
  injection h1 with h1
  injection h1 with h1 h2
  subst h1 h2
  exact grown_frozen_cell hG hne (hS.cell i x hx)
def MakPost (w : World) (b : Int) (e : Ending) (w' : World) : Prop := ∃ t C M, e = .returned t ∧ TmR w' t (prL b) C M ∧ Ext w w'
set_option maxRecDepth 100000 in
set_option maxHeartbeats 8000000 in
theorem make18_any {w : World} {b : Int} {rv : Value} {Z : List (List Int)} {vals : Bool} (hb : 0 ≤ b ∧ b ≤ 255) (hR : RowsA w rv Z) (hl : Z.length ≤ 3) (hL : Laid w) :
    Calls Tryz.prog 12 #[.agg #[.int .u8 b, rv, .bool vals]] w (MakPost w b) := by
  have hpr := Lib.hid (fun W => primes12_any (w := W) hb)
  obtain ⟨sa, gb, go, cap, rfl, hcap, hsa, hz4, hcz⟩ := hR
  have hX := ((Ext.refl w).alloc (.cells #[.int .u8 b, .slice sa Z.length cap, .bool vals] 24)).alloc (.cells #[.slice none 0 0, .slice none 0 0, .slice none 0 0] 34)
  have x0 : ((w.alloc (.cells #[.int .u8 b, .slice sa Z.length cap, .bool vals] 24)).alloc (.cells #[.slice none 0 0, .slice none 0 0, .slice none 0 0] 34)).cell? ⟨w.heap.size, 0, none⟩ = some (.int .u8 b) := by go_simp
  have x1 : ((w.alloc (.cells #[.int .u8 b, .slice sa Z.length cap, .bool vals] 24)).alloc (.cells #[.slice none 0 0, .slice none 0 0, .slice none 0 0] 34)).cell? ⟨w.heap.size, 1, none⟩ = some (.slice sa Z.length cap) := by go_simp
  have x2 : ((w.alloc (.cells #[.int .u8 b, .slice sa Z.length cap, .bool vals] 24)).alloc (.cells #[.slice none 0 0, .slice none 0 0, .slice none 0 0] 34)).cell? ⟨w.heap.size, 2, none⟩ = some (.bool vals) := by go_simp
  have Hz4 := Lib.hid hz4
  have Hcz := Lib.hid hcz
  have Hsa := Lib.hid hsa
  have HL := Lib.hid hL
  clear hsa hz4 hcz hL hb
  go_enter Tryz.func12, Tryz.ntmps12
  go_upto_region 1 with fail
  generalize hV : World.alloc (World.alloc w _) _ = V at *
  have h2l : w.heap.size + 1 < V.heap.size := by rw [← hV]; simp
  have HO := Lib.hid (show OwnV 34 (w.heap.size + 1) V (w.heap.size + 1) 3 [.slice none 0 0, .slice none 0 0, .slice none 0 0] by
    have h := own3 (w.alloc (.cells #[.int .u8 b, .slice sa Z.length cap, .bool vals] 24)) 34 (.slice none 0 0) (.slice none 0 0) (.slice none 0 0)
    rw [show (w.alloc (.cells #[.int .u8 b, .slice sa Z.length cap, .bool vals] 24)).heap.size = w.heap.size + 1 by simp, hV] at h
    exact h)
  clear hV
  have hb2w : w.heap.size ≤ w.heap.size + 1 := by omega
  generalize w.heap.size + 1 = b2 at *
  go_wp2_with fail
  refine (hpr.out _).mono ?_
  rintro e X ⟨g, rfl, hP, hg, hE1⟩
  have HP := Lib.hid hP
  have HW := Lib.hid (prL_ok b)
  have x0' := hE1.cell x0
  have x1' := hE1.cell x1
  have x2' := hE1.cell x2
  have e1 := hX.trans hE1
  have h2X := hE1.size
  have hgb : g ≠ b2 := by omega
  obtain ⟨n, hn⟩ : ∃ n, n = (prL b).length := ⟨_, rfl⟩
  have hn4 := (prL_ok b).2.2.1
  rw [← hn] at hn4
  have Hn := Lib.hid hn
  have HPn := Lib.hid (show RowR X (slv g n n) (prL b) by rw [hn]; exact hP)
  have HO1 := Lib.hid (HO.out.ext hE1)
  rw [← hn]
  clear hP hg x0 x1 x2 hpr HO hn
  go_wp2_with fail
  go_loopw [4, 5] (fun out idx wr => ∃ i : Nat, i ≤ Z.length ∧ idx = .int .i64 i ∧ Hid (MatO X.heap.size wr out ((Z.take i).map (ivL n))) ∧ Ext X wr) (fun _ idx _ => Z.length - (intOf idx).toNat)
  case atStart => exact ⟨0, by omega, by go_num, Lib.hid (MatO.nil _ _), Ext.refl _⟩
  case round =>
    obtain ⟨i, hi, rfl, HM, hE⟩ := hrel
    generalize wr = Y at *
    have y1 := hE.cell x1'
    by_cases hlt : i < Z.length
    · have hii : (i : Int) < (Z.length : Int) := by omega
      have hi3 : (i : Int) < 3 := by omega
      obtain rfl := Hsa.out (by omega)
      have hcc := fun j hj => (e1.trans hE).cell (Hcz.out i hlt j hj)
      obtain ⟨zs, hzs⟩ : ∃ zs, zs = Z[i] := ⟨_, rfl⟩
      obtain ⟨hz4, hzb⟩ := Hz4.out i hlt
      rw [← hzs] at hz4 hzb
      simp only [← hzs] at hcc
      have q0 : Y.cell? ⟨gb, go + i * 4, none⟩ = some (.int .i8 (zs.getD 0 0)) := by have := hcc 0 (by omega); rwa [show go + 4 * i + 0 = go + i * 4 by omega] at this
      have q1 : Y.cell? ⟨gb, go + i * 4 + 1, none⟩ = some (.int .i8 (zs.getD 1 0)) := by have := hcc 1 (by omega); rwa [show go + 4 * i + 1 = go + i * 4 + 1 by omega] at this
      have q2 : Y.cell? ⟨gb, go + i * 4 + 2, none⟩ = some (.int .i8 (zs.getD 2 0)) := by have := hcc 2 (by omega); rwa [show go + 4 * i + 2 = go + i * 4 + 2 by omega] at this
      have q3 : Y.cell? ⟨gb, go + i * 4 + 3, none⟩ = some (.int .i8 (zs.getD 3 0)) := by have := hcc 3 (by omega); rwa [show go + 4 * i + 3 = go + i * 4 + 3 by omega] at this
      have HI := Lib.hid (interval12_any (w := Y) (cs := #[.int .i8 (zs.getD 0 0), .int .i8 (zs.getD 1 0), .int .i8 (zs.getD 2 0), .int .i8 (zs.getD 3 0)]) (zs := zs) (HP.out.ext hE) HW.out.2.2.1 ⟨by simp, hz4, fun j hj => by
        rcases (show j = 0 ∨ j = 1 ∨ j = 2 ∨ j = 3 by omega) with rfl | rfl | rfl | rfl <;> rfl, hzb⟩)
      rw [← Hn.out] at HI
      have Hsn := Lib.hid (show (Z.take (i + 1)).map (ivL n) = (Z.take i).map (ivL n) ++ [ivL n zs] by rw [List.take_succ_eq_append_getElem hlt, List.map_append, hzs]; rfl)
      have Hil := Lib.hid (show ((Z.take i).map (ivL n)).length = i by simp; omega)
      have hXY := hE.size
      clear hcc hz4 hzb hzs
      generalize zs.getD 0 0 = w0, zs.getD 1 0 = w1, zs.getD 2 0 = w2, zs.getD 3 0 = w3 at *
      go_wp2_with fail
      refine HI.out.mono ?_
      rintro e W ⟨v', rfl, hv', hE2⟩
      have Hv := Lib.hid (hv'.mono hXY)
      obtain ⟨va, vl, vc, rfl⟩ := RowV.slice hv'
      have HMW := Lib.hid (HM.out.ext hE2)
      have hEW := hE.trans hE2
      have hWs := hEW.size
      clear hv' HI q0 q1 q2 q3
      go_wp2_with (at_builtin; refine app_mat rfl _ _ rfl (B := X.heap.size) rfl (HMW.out.ext ((Ext.refl _).alloc _)) rfl (b := W.heap.size) (rv := .slice va vl vc) (r := ivL n zs) (by go_simp) (Hv.out.ext ((Ext.refl _).alloc _)) (by rw [Hil.out]; omega) (by simp; omega) ?_; intro gg cap2 w8 hO8 hB8 hG8; rw [Hil.out, ← Hsn.out] at hO8; rw [Hil.out])
      have hE8 : Ext X w8 := Below.trans (hEW.alloc _) hB8
      have HO8 := Lib.hid hO8
      clear hG8 hB8 hO8
      go_wp2_with fail
      go_roundw
      case rel => exact ⟨i + 1, by omega, by go_num, HO8, hE8⟩
      case measure => simp [intOf] <;> omega
    · obtain rfl : i = Z.length := by omega
      have HF := Lib.hid (show MatO X.heap.size Y u4 (Z.map (ivL n)) by have := HM.out; rw [List.take_length] at this; exact this)
      obtain ⟨xa, xl, xk, rfl⟩ := HF.out.slice
      have y2 := hE.cell x2'
      have HB := Lib.hid (build_any (w := Y) (vals := vals) (HP.out.ext hE) HF.out.mat HW.out (by
        intro r hr
        obtain ⟨z, hz, rfl⟩ := List.mem_map.1 hr
        obtain ⟨k, hk, rfl⟩ := List.getElem_of_mem hz
        rw [← Hn.out]; exact ivL_len (Hz4.out k hk).1 hn4) (by simp; omega) (by
        intro r hr
        obtain ⟨z, hz, rfl⟩ := List.mem_map.1 hr
        exact ivL_ent n z) (HL.out.ext (e1.trans hE)))
      rw [← Hn.out] at HB
      clear HM
      go_wp2_with fail
      refine HB.out.mono ?_
      rintro e W ⟨C, M, sc, lc, cc, sm, lm, cm, rfl, hok, hC, hM, hE2⟩
      rw [← Hn.out]
      have eW := (e1.trans hE).trans hE2
      have eW2 := eW.alloc (.cells #[slv g n n, .slice sc lc cc, .slice sm lm cm] 34)
      have ea := (Ext.refl W).alloc (.cells #[slv g n n, .slice sc lc cc, .slice sm lm cm] 34)
      have H2 := Lib.hid (((HO1.out.ext hE).ext hE2).ext ea)
      have H6 := own3 W 34 (slv g n n) (.slice sc lc cc) (.slice sm lm cm)
      have HC2 := Lib.hid (hC.ext ea)
      have HM2 := Lib.hid (hM.ext ea)
      have Hok := Lib.hid hok
      have HPW := Lib.hid (HPn.out.ext ((hE.trans hE2).trans ea))
      clear y2 HB HF x0' x1' x2' HPn HP y1
      go_upto_region 8 with fail
      generalize hZ : W.alloc (.cells #[slv g n n, .slice sc lc cc, .slice sm lm cm] 34) = U at *
      have k0 := H6.cell (j := 0) (by simp)
      have k1 := H6.cell (j := 1) (by simp)
      have k2 := H6.cell (j := 2) (by simp)
      simp only [List.getElem_cons_zero, List.getElem_cons_succ] at k0 k1 k2
      obtain ⟨Hr6, He6, Hg6⟩ := set3 eW2 (by omega) H2.out (slv g n n) (.slice sc lc cc) (.slice sm lm cm)
      have r0 := Hr6.cell (j := 0) (by simp)
      have r1 := Hr6.cell (j := 1) (by simp)
      have r2 := Hr6.cell (j := 2) (by simp)
      simp only [List.getElem_cons_zero, List.getElem_cons_succ] at r0 r1 r2
      have f0 := H2.out.frozen 0
      have f1 := H2.out.frozen 1
      have f2 := H2.out.frozen 2
      have m0 := H2.out.cell (j := 0) (by simp)
      have m1 := H2.out.cell (j := 1) (by simp)
      have m2 := H2.out.cell (j := 2) (by simp)
      simp only [List.getElem_cons_zero, List.getElem_cons_succ] at m0 m1 m2
      have HC3 := Lib.hid (mat_kept2 HC2.out H2.out (by decide) (by decide) Hg6)
      have HM3 := Lib.hid (mat_kept2 HM2.out H2.out (by decide) (by decide) Hg6)
      have HP3 := Lib.hid (row_kept HPW.out Hg6 hgb)
      have Hres := Lib.hid (show MakPost w b (.returned (tmv (slv g n n) (.slice sc lc cc) (.slice sm lm cm))) _ from ⟨_, C, M, rfl, ⟨Hok.out, _, _, _, _, _, _, _, _, by rw [← Hn.out], by rw [← Hn.out]; exact HP3.out, HC3.out.mat, HM3.out.mat⟩, He6⟩)
      clear hZ Hr6 He6 Hg6 H6
      go_wp2_with fail
      refine bodyPost_ret (v := tmv (slv g n n) (.slice sc lc cc) (.slice sm lm cm)) (by simp [results, Tryz.results12, go_sem, r0, r1, r2]) rfl Hres.out
end Go.Proofs.YtkjnjmihfonilaaGreatDoor
namespace Go.Proofs.YtkjnjmihfonilaaGreatDoor
open Go.RowKit Go.Sort
structure TmV (w : World) (P : List Int) (C M M' : Mx) (sp : Option Addr) (cp : Nat) (sc : Option Addr) (lc cc : Nat) (sm : Option Addr) (lm cm : Nat) : Prop where
  ok : TmOK P C M
  hP : RowR w (.slice sp P.length cp) P
  hC : MatR w (.slice sc lc cc) C
  hM : MatR w (.slice sm lm cm) M'
abbrev tmS (P : List Int) (sp : Option Addr) (cp : Nat) (sc : Option Addr) (lc cc : Nat) (sm : Option Addr) (lm cm : Nat) : Value := tmv (.slice sp P.length cp) (.slice sc lc cc) (.slice sm lm cm)
theorem TmV.ext {w w' : World} {P : List Int} {C M M' : Mx} {sp : Option Addr} {cp : Nat} {sc : Option Addr} {lc cc : Nat} {sm : Option Addr} {lm cm : Nat} (h : TmV w P C M M' sp cp sc lc cc sm lm cm) (he : Ext w w') : TmV w' P C M M' sp cp sc lc cc sm lm cm := ⟨h.ok, h.hP.ext he, h.hC.ext he, h.hM.ext he⟩
theorem TmR.open {w : World} {t : Value} {P : List Int} {C M : Mx} (h : TmR w t P C M) : ∃ sp cp sc lc cc sm lm cm, t = tmS P sp cp sc lc cc sm lm cm ∧ TmV w P C M M sp cp sc lc cc sm lm cm := by
  obtain ⟨h1, sp, cp, sc, lc, cc, sm, lm, cm, rfl, h2, h3, h4⟩ := h
  exact ⟨_, _, _, _, _, _, _, _, rfl, h1, h2, h3, h4⟩
def tmE (M M' : Mx) : Int := if M = M' then 0 else 14
set_option maxRecDepth 100000 in
set_option maxHeartbeats 4000000 in
theorem tCheck_any {w : World} {P : List Int} {C M M' : Mx} {sp : Option Addr} {cp : Nat} {sc : Option Addr} {lc cc : Nat} {sm : Option Addr} {lm cm : Nat} (h : TmV w P C M M' sp cp sc lc cc sm lm cm) (hL : Laid w) :
    Calls Tryz.prog 39 #[tmS P sp cp sc lc cc sm lm cm] w fun e w' => e = .returned (.int .i64 (tmE M M')) ∧ Ext w w' := by
  obtain ⟨hok, hP, hC, hM'⟩ := h
  have hp4 := hok.p4
  have hp0 := hok.p0
  obtain ⟨psC, hI⟩ := hok.kC.1
  obtain ⟨psM, hIM⟩ := hok.kM.1
  have hl4 := isH_len hI
  have hl4M := isH_len hIM
  have hck := Lib.hid (fun W (hW : Ext w W) => pCheck_ok (hP.ext hW) hp0 (by omega) hok.pr hok.inc)
  have hlc := Lib.hid (fun W (hW : Ext w W) => latCheck_ok (hC.ext hW) hI (by omega) (by omega) hok.sC)
  have hsat := Lib.hid (fun W (hW : Ext w W) => satur_ok (hC.ext hW) hI hp0 hp4 hok.sC (fun K hK => by rw [hK.uniq hok.kM]; exact hok.sM) (fun K S hK hS => by
    rw [hK.uniq hok.kM] at hS
    rw [hS.uniq hok.kC]; exact hok.sC) (hL.ext hW))
  have hann := Lib.hid (fun W (hW : Ext w W) => annih_ok (hC.ext hW) hI hp0 hp4 hok.sC (fun K hK => by rw [hK.uniq hok.kM]; exact hok.sM) (hL.ext hW))
  have heq := Lib.hid (fun W va (hW : Ext w W) (h : MatR W va C) => latEqual_any (n := P.length) h (hC.ext hW) (by omega) (fun r hr => by rw [hI.rect r hr]; omega))
  rw [decide_eq_true rfl] at heq
  have hsm := Lib.hid (fun W va (hW : Ext w W) (h : MatR W va M) => tmpSame_any h (hM'.ext hW) (by omega) (fun r hr => by rw [hIM.rect r hr]; omega))
  have HkM := Lib.hid hok.kM
  have HkC := Lib.hid hok.kC
  have hX := (Ext.refl w).alloc (.cells #[.slice sp P.length cp, .slice sc lc cc, .slice sm lm cm] 34)
  have x0 : (w.alloc (.cells #[.slice sp P.length cp, .slice sc lc cc, .slice sm lm cm] 34)).cell? ⟨w.heap.size, 0, none⟩ = some (.slice sp P.length cp) := by go_simp
  have x1 : (w.alloc (.cells #[.slice sp P.length cp, .slice sc lc cc, .slice sm lm cm] 34)).cell? ⟨w.heap.size, 1, none⟩ = some (.slice sc lc cc) := by go_simp
  have x2 : (w.alloc (.cells #[.slice sp P.length cp, .slice sc lc cc, .slice sm lm cm] 34)).cell? ⟨w.heap.size, 2, none⟩ = some (.slice sm lm cm) := by go_simp
  clear hok hP hC hM' hI hIM hl4 hl4M hL
  go_enter Tryz.func39, Tryz.ntmps39
  go_wp2_with fail
  generalize w.alloc (.cells #[.slice sp P.length cp, .slice sc lc cc, .slice sm lm cm] 34) = V at *
  refine (hck.out _ hX).mono ?_
  rintro e X ⟨rfl, hE1⟩
  have y0 := hE1.cell x0
  have y1 := hE1.cell x1
  have y2 := hE1.cell x2
  have e1 := hX.trans hE1
  have e1a := e1.alloc (.cells #[.int .i64 P.length, .slice sc lc cc] 94)
  clear hck x0 x1 x2
  go_wp2_with fail
  refine (hlc.out _ e1a).mono ?_
  rintro e X2 ⟨rfl, hE2⟩
  have e2 := e1a.trans hE2
  have z0 : X2.cell? ⟨X.heap.size, 0, none⟩ = some (.int .i64 P.length) := hE2.cell (by go_simp)
  have z1 : X2.cell? ⟨X.heap.size, 1, none⟩ = some (.slice sc lc cc) := hE2.cell (by go_simp)
  have hbx : X.heap.size < X2.heap.size := by have := hE2.size; simp at this; omega
  have y2' := (hE2.cell (((Ext.refl X).alloc (.cells #[.int .i64 P.length, .slice sc lc cc] 94)).cell y2))
  generalize X.heap.size = b4 at *
  clear hlc y0 y1 y2 e1 e1a hE1 hE2
  go_wp2_with fail
  refine (hsat.out _ e2).mono ?_
  rintro e X3 ⟨v2, S, rfl, hm2, ⟨K, hK, hS⟩, hE3⟩
  have HS := Lib.hid (show MatR X3 v2 C by
    rw [hK.uniq HkM.out] at hS
    rw [← hS.uniq HkC.out]; exact hm2.mat)
  obtain ⟨a2, l2, k2, rfl⟩ := hm2.slice
  have z0 := hE3.cell z0
  have z1 := hE3.cell z1
  have y2' := hE3.cell y2'
  have e3 := e2.trans hE3
  have e3a := e3.alloc (.cells #[.int .i64 P.length, .slice a2 l2 k2] 94)
  have ea3 := (Ext.refl X3).alloc (.cells #[.int .i64 P.length, .slice a2 l2 k2] 94)
  have HS2 := Lib.hid (HS.out.ext ea3)
  have z0a := ea3.cell z0
  have z1a := ea3.cell z1
  clear hK hS hm2 hsat hE3
  go_wp2_with fail
  refine (heq.out _ _ e3a HS2.out).mono ?_
  rintro e X4 ⟨rfl, hE4⟩
  have z0 := hE4.cell (ea3.cell z0)
  have z1 := hE4.cell (ea3.cell z1)
  have y2' := hE4.cell (ea3.cell y2')
  have e4 := e3a.trans hE4
  clear heq HS HS2 ea3 e3a hE4 e3
  go_wp2_with fail
  refine (hann.out _ e4).mono ?_
  rintro e X5 ⟨v3, K', rfl, hm3, hK', hE5⟩
  obtain rfl := hK'.uniq HkM.out
  obtain ⟨a3, l3, k3, rfl⟩ := hm3.slice
  have y2' := hE5.cell y2'
  have e5 := e4.trans hE5
  have e5a := e5.alloc (.cells #[.int .i64 P.length, .slice a3 l3 k3] 94)
  have ea5 := (Ext.refl X5).alloc (.cells #[.int .i64 P.length, .slice a3 l3 k3] 94)
  have y2' := ea5.cell y2'
  have HM3 := Lib.hid (hm3.mat.ext ea5)
  have hs := Lib.hid (hsm.out _ _ e5a HM3.out)
  clear hm3 hK' hann hE5 z0 z1 HM3 hsm
  by_cases hMM : K' = M'
  · rw [decide_eq_true hMM] at hs
    have he : tmE K' M' = 0 := by unfold tmE; rw [if_pos hMM]
    have He := Lib.hid he
    clear he hMM
    go_wp2_with fail
    refine hs.out.mono ?_
    rintro e X6 ⟨rfl, hE6⟩
    go_wp2_with fail
    go_ret
    exact ⟨ret_val (congrArg (Value.int .i64) He.out.symm), e5a.trans hE6⟩
  · rw [decide_eq_false hMM] at hs
    have he : tmE K' M' = 14 := by unfold tmE; rw [if_neg hMM]
    have He := Lib.hid he
    clear he hMM
    go_wp2_with fail
    refine hs.out.mono ?_
    rintro e X6 ⟨rfl, hE6⟩
    go_wp2_with fail
    go_ret
    exact ⟨ret_val (congrArg (Value.int .i64) He.out.symm), e5a.trans hE6⟩
end Go.Proofs.YtkjnjmihfonilaaGreatDoor
namespace Go.Proofs.YtkjnjmihfonilaaGreatDoor
open Go.RowKit Go.Sort
theorem row3N {W : World} {b : Nat} {a0 a1 a2 : Int} (h0 : W.cell? ⟨b, 0, none⟩ = some (.int .i64 a0)) (h1 : W.cell? ⟨b, 1, none⟩ = some (.int .i64 a1)) (h2 : W.cell? ⟨b, 2, none⟩ = some (.int .i64 a2)) : RowR W (.slice (some ⟨b, 0, none⟩) 3 3) [a0, a1, a2] :=
  rowN (l := [a0, a1, a2]) rfl fun i hi => by
    have hi3 : i < 3 := hi
    rcases (show i = 0 ∨ i = 1 ∨ i = 2 by omega) with rfl | rfl | rfl
    · exact h0
    · exact h1
    · exact h2
theorem row2N {W : World} {b : Nat} {a0 a1 : Int} (h0 : W.cell? ⟨b, 0, none⟩ = some (.int .i64 a0)) (h1 : W.cell? ⟨b, 1, none⟩ = some (.int .i64 a1)) : RowR W (.slice (some ⟨b, 0, none⟩) 2 2) [a0, a1] :=
  rowN (l := [a0, a1]) rfl fun i hi => by
    have hi3 : i < 2 := hi
    rcases (show i = 0 ∨ i = 1 by omega) with rfl | rfl
    · exact h0
    · exact h1
theorem matN {W : World} {b n : Nat} {M : Mx} {vs : List Value} (hn : M.length = n) (hv : vs.length = n) (hc : ∀ i (h : i < vs.length), W.cell? ⟨b, i, none⟩ = some vs[i]) (hr : ∀ i (h : i < M.length) (h' : i < vs.length), RowR W vs[i] M[i]) : MatR W (.slice (some ⟨b, 0, none⟩) n n) M := by
  refine ⟨_, b, 0, n, vs, by rw [hn], by omega, by omega, ⟨fun _ => rfl, fun i u hu => ?_⟩, hr⟩
  obtain ⟨hi, rfl⟩ := List.getElem?_eq_some_iff.1 hu
  rw [Nat.zero_add]; exact hc i hi
theorem mat1N {W : World} {b : Nat} {v0 : Value} {r0 : List Int} (h0 : W.cell? ⟨b, 0, none⟩ = some v0) (k0 : RowR W v0 r0) : MatR W (.slice (some ⟨b, 0, none⟩) 1 1) [r0] :=
  matN (vs := [v0]) rfl rfl (fun i hi => by
    have hi3 : i < 1 := hi
    obtain rfl : i = 0 := by omega
    exact h0) (fun i hi _ => by
    have hi3 : i < 1 := hi
    obtain rfl : i = 0 := by omega
    exact k0)
theorem mat2N {W : World} {b : Nat} {v0 v1 : Value} {r0 r1 : List Int} (h0 : W.cell? ⟨b, 0, none⟩ = some v0) (h1 : W.cell? ⟨b, 1, none⟩ = some v1) (k0 : RowR W v0 r0) (k1 : RowR W v1 r1) : MatR W (.slice (some ⟨b, 0, none⟩) 2 2) [r0, r1] :=
  matN (vs := [v0, v1]) rfl rfl (fun i hi => by
    have hi3 : i < 2 := hi
    rcases (show i = 0 ∨ i = 1 by omega) with rfl | rfl
    · exact h0
    · exact h1) (fun i hi _ => by
    have hi3 : i < 2 := hi
    rcases (show i = 0 ∨ i = 1 by omega) with rfl | rfl
    · exact k0
    · exact k1)
theorem mat4N {W : World} {b : Nat} {v0 v1 v2 v3 : Value} {r0 r1 r2 r3 : List Int} (h0 : W.cell? ⟨b, 0, none⟩ = some v0) (h1 : W.cell? ⟨b, 1, none⟩ = some v1) (h2 : W.cell? ⟨b, 2, none⟩ = some v2) (h3 : W.cell? ⟨b, 3, none⟩ = some v3) (k0 : RowR W v0 r0) (k1 : RowR W v1 r1) (k2 : RowR W v2 r2) (k3 : RowR W v3 r3) : MatR W (.slice (some ⟨b, 0, none⟩) 4 4) [r0, r1, r2, r3] :=
  matN (vs := [v0, v1, v2, v3]) rfl rfl (fun i hi => by
    have hi3 : i < 4 := hi
    rcases (show i = 0 ∨ i = 1 ∨ i = 2 ∨ i = 3 by omega) with rfl | rfl | rfl | rfl
    · exact h0
    · exact h1
    · exact h2
    · exact h3) (fun i hi _ => by
    have hi3 : i < 4 := hi
    rcases (show i = 0 ∨ i = 1 ∨ i = 2 ∨ i = 3 by omega) with rfl | rfl | rfl | rfl
    · exact k0
    · exact k1
    · exact k2
    · exact k3)
set_option maxRecDepth 100000 in
set_option maxHeartbeats 4000000 in
theorem meantone20_any {w : World} : Calls Tryz.prog 33 #[] w fun e w' => ∃ t, e = .returned t ∧ TmR w' t mtP mtC mtM ∧ Ext w w' := by
  go_enter Tryz.func33, Tryz.ntmps33
  go_wp2_with fail
  obtain ⟨W, hW⟩ : ∃ W, W = (((((((w.alloc (.cells #[.slice (some ⟨w.heap.size + 1, 0, none⟩) 3 3, .slice (some ⟨w.heap.size + 1 + 1 + 1, 0, none⟩) 1 1, .slice (some ⟨w.heap.size + 1 + 1 + 1 + 1 + 1 + 1, 0, none⟩) 2 2] 34)).alloc (.cells #[.int .i64 2, .int .i64 3, .int .i64 5] 3)).alloc (.cells #[.int .i64 4, .int .i64 (-4), .int .i64 1] 3)).alloc (.cells #[.slice (some ⟨w.heap.size + 1 + 1, 0, none⟩) 3 3] 26)).alloc (.cells #[.int .i64 1, .int .i64 0, .int .i64 (-4)] 3)).alloc (.cells #[.int .i64 0, .int .i64 1, .int .i64 4] 3)).alloc (.cells #[.slice (some ⟨w.heap.size + 1 + 1 + 1 + 1, 0, none⟩) 3 3, .slice (some ⟨w.heap.size + 1 + 1 + 1 + 1 + 1, 0, none⟩) 3 3] 26)) := ⟨_, rfl⟩
  have hE : Ext w W := by rw [hW]; exact (((((((Ext.refl w).alloc _).alloc _).alloc _).alloc _).alloc _).alloc _).alloc _
  have q0 : W.cell? ⟨w.heap.size, 0, none⟩ = some (.slice (some ⟨w.heap.size + 1, 0, none⟩) 3 3) := by rw [hW]; go_simp
  have q1 : W.cell? ⟨w.heap.size, 1, none⟩ = some (.slice (some ⟨w.heap.size + 1 + 1 + 1, 0, none⟩) 1 1) := by rw [hW]; go_simp
  have q2 : W.cell? ⟨w.heap.size, 2, none⟩ = some (.slice (some ⟨w.heap.size + 1 + 1 + 1 + 1 + 1 + 1, 0, none⟩) 2 2) := by rw [hW]; go_simp
  have k1 : RowR W (.slice (some ⟨w.heap.size + 1, 0, none⟩) 3 3) [2, 3, 5] := by rw [hW]; exact row3N (by go_simp) (by go_simp) (by go_simp)
  have k2 : RowR W (.slice (some ⟨w.heap.size + 1 + 1, 0, none⟩) 3 3) [4, -4, 1] := by rw [hW]; exact row3N (by go_simp) (by go_simp) (by go_simp)
  have k4 : RowR W (.slice (some ⟨w.heap.size + 1 + 1 + 1 + 1, 0, none⟩) 3 3) [1, 0, -4] := by rw [hW]; exact row3N (by go_simp) (by go_simp) (by go_simp)
  have k5 : RowR W (.slice (some ⟨w.heap.size + 1 + 1 + 1 + 1 + 1, 0, none⟩) 3 3) [0, 1, 4] := by rw [hW]; exact row3N (by go_simp) (by go_simp) (by go_simp)
  have k3 : MatR W (.slice (some ⟨w.heap.size + 1 + 1 + 1, 0, none⟩) 1 1) [[4, -4, 1]] := mat1N (by rw [hW]; go_simp) k2
  have k6 : MatR W (.slice (some ⟨w.heap.size + 1 + 1 + 1 + 1 + 1 + 1, 0, none⟩) 2 2) [[1, 0, -4], [0, 1, 4]] := mat2N (by rw [hW]; go_simp) (by rw [hW]; go_simp) k4 k5
  have hT : TmR W (tmS mtP (some ⟨w.heap.size + 1, 0, none⟩) 3 (some ⟨w.heap.size + 1 + 1 + 1, 0, none⟩) 1 1 (some ⟨w.heap.size + 1 + 1 + 1 + 1 + 1 + 1, 0, none⟩) 2 2) mtP mtC mtM := ⟨mt_ok, _, _, _, _, _, _, _, _, rfl, k1, k3, k6⟩
  rw [← hW]
  refine bodyPost_ret (v := tmS mtP (some ⟨w.heap.size + 1, 0, none⟩) 3 (some ⟨w.heap.size + 1 + 1 + 1, 0, none⟩) 1 1 (some ⟨w.heap.size + 1 + 1 + 1 + 1 + 1 + 1, 0, none⟩) 2 2) (by simp [results, Tryz.results33, go_sem, q0, q1, q2, mtP]) rfl ⟨_, rfl, hT, hE⟩
end Go.Proofs.YtkjnjmihfonilaaGreatDoor
namespace Go.Proofs.YtkjnjmihfonilaaGreatDoor
open Go.RowKit Go.Sort
def bgE (n : Nat) (x : List Int) : Int := if chkRow x = 0 then (if x.length = n then 0 else 5) else chkRow x
theorem tmE_same (M : Mx) : tmE M M = 0 := if_pos rfl
set_option maxRecDepth 100000 in
set_option maxHeartbeats 4000000 in
theorem begin1_any {w : World} {P : List Int} {C M : Mx} {sp : Option Addr} {cp : Nat} {sc : Option Addr} {lc cc : Nat} {sm : Option Addr} {lm cm : Nat} {b : Nat} {vx : Value} {x : List Int} (h : TmV w P C M M sp cp sc lc cc sm lm cm) (hb : w.cell? ⟨b, 0, none⟩ = some vx) (hx : RowR w vx x) (hL : Laid w) :
    Calls Tryz.prog 48 #[tmS P sp cp sc lc cc sm lm cm, .slice (some ⟨b, 0, none⟩) 1 1] w fun e w' => e = .returned (.int .i64 (bgE P.length x)) ∧ Ext w w' := by
  have hck := Lib.hid (fun W (hW : Ext w W) => tCheck_any (h.ext hW) (hL.ext hW))
  rw [tmE_same] at hck
  have hrc := Lib.hid (fun W (hW : Ext w W) => rowCheck_any (hx.ext hW))
  obtain ⟨sx, gx, ox, cx, rfl, _, _⟩ := hx
  have hX := (Ext.refl w).alloc (.cells #[.slice sp P.length cp, .slice sc lc cc, .slice sm lm cm] 34)
  have x0 : (w.alloc (.cells #[.slice sp P.length cp, .slice sc lc cc, .slice sm lm cm] 34)).cell? ⟨w.heap.size, 0, none⟩ = some (.slice sp P.length cp) := by go_simp
  have x1 : (w.alloc (.cells #[.slice sp P.length cp, .slice sc lc cc, .slice sm lm cm] 34)).cell? ⟨w.heap.size, 1, none⟩ = some (.slice sc lc cc) := by go_simp
  have x2 : (w.alloc (.cells #[.slice sp P.length cp, .slice sc lc cc, .slice sm lm cm] 34)).cell? ⟨w.heap.size, 2, none⟩ = some (.slice sm lm cm) := by go_simp
  have xb := hX.cell hb
  obtain ⟨z, hz⟩ : ∃ z, z = chkRow x := ⟨_, rfl⟩
  have hbg : bgE P.length x = if z = 0 then (if x.length = P.length then 0 else 5) else z := by rw [hz]; rfl
  generalize bgE P.length x = q at *
  rw [← hz] at hrc
  generalize x.length = nx at *
  have Hq := Lib.hid hbg
  clear hz hbg h hL hb
  go_enter Tryz.func48, Tryz.ntmps48
  go_wp2_with fail
  generalize w.alloc (.cells #[.slice sp P.length cp, .slice sc lc cc, .slice sm lm cm] 34) = V at *
  refine (hck.out _ hX).mono ?_
  rintro e X ⟨rfl, hE1⟩
  have y0 := hE1.cell x0
  have yb := hE1.cell xb
  have e1 := hX.trans hE1
  clear hck x0 x1 x2 xb hX hE1
  generalize P.length = n at *
  go_wp2_with fail
  go_loopw [16] (fun idx wr => ∃ i : Nat, i ≤ 1 ∧ idx = .int .i64 i ∧ Hid (0 < i → z = 0 ∧ nx = n) ∧ Ext X wr) (fun idx _ => 1 - (intOf idx).toNat)
  case atStart => exact ⟨0, by omega, by go_num, Lib.hid (fun h => by omega), Ext.refl _⟩
  case round =>
    obtain ⟨i, hi, rfl, HK, hE⟩ := hrel
    generalize wr = Y at *
    have yb1 := hE.cell yb
    have y01 := hE.cell y0
    rcases (show i = 0 ∨ i = 1 by omega) with rfl | rfl
    · have hr := Lib.hid (hrc.out _ (e1.trans hE))
      clear hrc hi HK
      by_cases hz : z = 0
      · subst hz
        by_cases hn : nx = n
        · subst hn
          go_wp2_with fail
          refine hr.out.mono ?_
          rintro e W ⟨rfl, hE2⟩
          have y02 := hE2.cell y01
          go_wp2_with fail
          go_roundw
          case rel => exact ⟨1, by omega, by go_num, Lib.hid (fun _ => by simp), hE.trans hE2⟩
          case measure => simp [intOf]
        · have h1 : ¬ ((nx : Int) = (n : Int)) := by omega
          have h2 : ((nx : Int) == (n : Int)) = false := beq_eq_false_iff_ne.2 h1
          have h3 : ((nx : Int) != (n : Int)) = true := by simp [bne, h2]
          have H5 := Lib.hid (show (5 : Int) = q by rw [Hq.out, if_pos rfl, if_neg hn])
          clear hn
          go_wp2_with fail
          refine hr.out.mono ?_
          rintro e W ⟨rfl, hE2⟩
          have y02 := hE2.cell y01
          have eF := (e1.trans hE).trans hE2
          go_wp2_with fail
          go_ret
          exact ⟨ret_val (congrArg (Value.int .i64) H5.out), eF⟩
      · have h2 : (z == 0) = false := beq_eq_false_iff_ne.2 hz
        have h3 : (z != 0) = true := by simp [bne, h2]
        have H5 := Lib.hid (show z = q by rw [Hq.out, if_neg hz])
        clear hz
        go_wp2_with fail
        refine hr.out.mono ?_
        rintro e W ⟨rfl, hE2⟩
        have eF := (e1.trans hE).trans hE2
        go_wp2_with fail
        go_ret
        exact ⟨ret_val (congrArg (Value.int .i64) H5.out), eF⟩
    · obtain ⟨k1, k2⟩ := HK.out (by omega)
      have H5 := Lib.hid (show (0 : Int) = q by rw [Hq.out, if_pos k1, if_pos k2])
      clear k1 k2
      go_wp2_with fail
      go_ret
      exact ⟨ret_val (congrArg (Value.int .i64) H5.out), e1.trans hE⟩
end Go.Proofs.YtkjnjmihfonilaaGreatDoor
namespace Go.Proofs.YtkjnjmihfonilaaGreatDoor
open Go.RowKit Go.Sort
theorem tmp_b {f : Nat → Int} (hf : ∀ i, (f i).natAbs ≤ 1000000000000000000) : ∀ k, (sumZ f k).natAbs ≤ k * 1000000000000000000
  | 0 => by simp [sumZ]
  | k + 1 => by
    have h1 := tmp_b hf k
    have h2 := hf k
    rw [sumZ]; omega
theorem nd_b66 {z : Int} (h : z.natAbs ≤ 64000000000000000000) : nd z ≤ 67 := nd_lt2 (E := 66) (by
  have e : (2 : Nat) ^ 66 = 73786976294838206464 := by decide
  rw [e]; omega)
theorem prod_b {a b : Int} (ha : -1000000000 ≤ a ∧ a ≤ 1000000000) (hb : -1000000000 ≤ b ∧ b ≤ 1000000000) : (a * b).natAbs ≤ 1000000000000000000 := by
  rw [Int.natAbs_mul]
  have := Nat.mul_le_mul (show a.natAbs ≤ 1000000000 by omega) (show b.natAbs ≤ 1000000000 by omega)
  omega
theorem getD_bd9 {l : List Int} (h : ∀ z ∈ l, -1000000000 ≤ z ∧ z ≤ 1000000000) (i : Nat) : -1000000000 ≤ l.getD i 0 ∧ l.getD i 0 ≤ 1000000000 := by
  rw [List.getD_eq_getElem?_getD]
  rcases Nat.lt_or_ge i l.length with hi | hi
  · rw [List.getElem?_eq_getElem hi]; exact h _ (List.getElem_mem hi)
  · rw [List.getElem?_eq_none hi]; simp
def tmpT (x v : List Int) (j : Nat) : Int := sumZ (fun i => x.getD i 0 * v.getD i 0) j
theorem tmpT_succ (x v : List Int) (j : Nat) : tmpT x v (j + 1) = tmpT x v j + x.getD j 0 * v.getD j 0 := rfl
theorem tmpT_b {x v : List Int} (hx : ∀ z ∈ x, -1000000000 ≤ z ∧ z ≤ 1000000000) (hv : ∀ z ∈ v, -1000000000 ≤ z ∧ z ≤ 1000000000) {j : Nat} (hj : j ≤ 64) : nd (tmpT x v j) ≤ 67 := by
  have := tmp_b (f := fun i => x.getD i 0 * v.getD i 0) (fun i => prod_b (getD_bd9 hx i) (getD_bd9 hv i)) j
  refine nd_b66 ?_
  unfold tmpT
  omega
set_option maxRecDepth 100000 in
set_option maxHeartbeats 4000000 in
theorem temper_any {w : World} {P : List Int} {C M : Mx} {sp : Option Addr} {cp : Nat} {sc : Option Addr} {lc cc : Nat} {sm : Option Addr} {lm cm : Nat} {sx : Option Addr} {n cx : Nat} {x : List Int} (h : TmV w P C M M sp cp sc lc cc sm lm cm) (hx : RowR w (.slice sx n cx) x) (hc : chkRow x = 0) (hl : x.length = P.length) (hL : Laid w) :
    Calls Tryz.prog 49 #[tmS P sp cp sc lc cc sm lm cm, .slice sx n cx] w fun e w' => ∃ v', e = .returned v' ∧ IntsV w.heap.size w' v' (tmpL M x) ∧ Ext w w' := by
  obtain ⟨hok, hP, hC, hM⟩ := h
  obtain ⟨psM, hIM⟩ := hok.kM.1
  have hlM := isH_len hIM
  have hp4 := hok.p4
  obtain ⟨hx64, hxb⟩ := chkRow_ok hc
  have Hxb := Lib.hid hxb
  have HsM := Lib.hid hok.sM
  have HrM := Lib.hid (show ∀ r ∈ M, r.length = x.length from fun r hr => by rw [hIM.rect r hr, hl])
  have HL := Lib.hid hL
  obtain ⟨sx', gx, ox, cx', ex, hxc, hSx⟩ := hx
  injection ex with q1 q2 q3
  subst q1 q3
  rw [q2]
  have hnx : x.length ≤ 4 := by omega
  have HSx := Lib.hid hSx
  obtain ⟨sm', gm, om, cm', vs, em, hmc, hvl, hSm, hrm⟩ := hM
  injection em with q4 q5 q6
  subst q4 q6
  rw [q5]
  have hlM4 : M.length ≤ 4 := by omega
  have HS := Lib.hid hSm
  have HV := Lib.hid hvl
  have HR := Lib.hid hrm
  have hX := (Ext.refl w).alloc (.cells #[.slice sp P.length cp, .slice sc lc cc, .slice sm M.length cm] 34)
  have x2 : (w.alloc (.cells #[.slice sp P.length cp, .slice sc lc cc, .slice sm M.length cm] 34)).cell? ⟨w.heap.size, 2, none⟩ = some (.slice sm M.length cm) := by go_simp
  have hsz : w.heap.size ≤ (w.alloc (.cells #[.slice sp P.length cp, .slice sc lc cc, .slice sm M.length cm] 34)).heap.size := by simp
  clear hxb hIM hok hP hC hl hp4 hlM hSm hvl hrm hL hSx q2 q5 hc hx64
  go_enter Tryz.func49, Tryz.ntmps49
  go_wp2_with fail
  generalize w.alloc (.cells #[.slice sp P.length cp, .slice sc lc cc, .slice sm M.length cm] 34) = V at *
  generalize P.length = np at *
  go_loopw [5, 14] (fun out idx wr => ∃ i : Nat, i ≤ M.length ∧ idx = .int .i64 i ∧ Hid (IntsV V.heap.size wr out ((tmpL M x).take i)) ∧ Ext V wr) (fun _ idx _ => M.length - (intOf idx).toNat)
  case atStart => exact ⟨0, by omega, by go_num, Lib.hid (by rw [List.take_zero]; exact IntsV.nil _ _), Ext.refl _⟩
  case round =>
    obtain ⟨i, hi', rfl, hV, hE⟩ := hrel
    generalize wr = X at *
    by_cases hlt : i < M.length
    · have hii : (i : Int) < (M.length : Int) := by omega
      obtain rfl := HS.out.addr (by rw [HV.out]; omega)
      obtain ⟨sr, br, or, cr, hrow, hrc, hSr⟩ := MatR.row HS.out HV.out HR.out hlt
      obtain ⟨r, hr⟩ : ∃ r, r = M[i] := ⟨_, rfl⟩
      have hrl := HrM.out _ (List.getElem_mem hlt)
      have Hrb := Lib.hid (HsM.out _ (List.getElem_mem hlt))
      have Htk := Lib.hid (show (tmpL M x).take (i + 1) = (tmpL M x).take i ++ [tmpE x M[i]] by
        rw [List.take_succ_eq_append_getElem (by simpa using hlt)]
        simp [tmpL])
      rw [← hr] at hrow hrc hSr hrl Hrb Htk
      have eX := hX.trans hE
      have hrow' := eX.cell hrow
      have HSr := Lib.hid (hSr.ext eX)
      have HSx2 := Lib.hid (HSx.out.ext eX)
      have Hil := Lib.hid (show ((tmpL M x).take i).length = i by rw [List.length_take, tmpL_length]; omega)
      rw [hrl] at hrow' hrc
      clear hrow hSr hr
      obtain ⟨m, hm⟩ : ∃ m, m = x.length := ⟨_, rfl⟩
      rw [← hm] at hrow' hrc hxc hnx ⊢
      have Hm := Lib.hid hm
      have Hrl := Lib.hid (hrl.trans hm.symm)
      clear hm hrl
      go_wp2_with fail
      go_loopw [8, 20] (fun sv jdx wr => ∃ j : Nat, j ≤ m ∧ jdx = .int .i64 j ∧ sv = I (tmpT x r j) ∧ Ext X wr) (fun _ jdx _ => m - (intOf jdx).toNat)
      case atStart => exact ⟨0, by omega, by go_num, (show I 0 = _ by unfold I S; rw [itoa_zero]).symm, Ext.refl _⟩
      case round =>
        obtain ⟨j, hj, rfl, rfl, hE2⟩ := hrel
        generalize wr = Y at *
        by_cases hjl : j < m
        · have hji : (j : Int) < (m : Int) := by omega
          have hj1 : j < x.length := by rw [← Hm.out]; exact hjl
          have hj2 : j < r.length := by rw [Hrl.out]; exact hjl
          obtain ⟨a, ha⟩ : ∃ a, a = x.getD j 0 := ⟨_, rfl⟩
          obtain ⟨b, hb⟩ : ∃ b, b = r.getD j 0 := ⟨_, rfl⟩
          have Hts := Lib.hid (tmpT_succ x r j)
          rw [← ha, ← hb] at Hts
          have hca := hE2.cell (HSx2.out.cell j (.int .i64 a) (by rw [ha, getD_get hj1]; exact is_get hj1))
          have hcb := hE2.cell (HSr.out.cell j (.int .i64 b) (by rw [hb, getD_get hj2]; exact is_get hj2))
          obtain rfl := HSx.out.addr (by simp; omega)
          obtain rfl := HSr.out.addr (by simp; omega)
          have hab := getD_bd9 Hxb.out j
          have hbb := getD_bd9 Hrb.out j
          rw [← ha] at hab
          rw [← hb] at hbb
          have n1 := tmpT_b Hxb.out Hrb.out (j := j) (by omega)
          have n2 := nd_b66 (z := a * b) (by have := prod_b hab hbb; omega)
          have n3 := nd_b66 (z := a) (by omega)
          have n4 := nd_b66 (z := b) (by omega)
          obtain ⟨s, hs⟩ : ∃ s, s = tmpT x r j := ⟨_, rfl⟩
          rw [← hs] at n1 Hts ⊢
          have eY := eX.trans hE2
          have HeY := Lib.hid eY
          have c1 := Lib.hid (quietC (w := Y) (fun W hW => wholeOf_any (n := a) (w := W) (by omega) (by omega) (HL.out.ext (HeY.out.trans hW))))
          have c2 := Lib.hid (quietC (w := Y) (fun W hW => wholeOf_any (n := b) (w := W) (by omega) (by omega) (HL.out.ext (HeY.out.trans hW))))
          have c3 := Lib.hid (quietC (w := Y) (fun W hW => Mul_any (a := a) (b := b) (w := W) (by unfold LIM; omega) (HL.out.ext (HeY.out.trans hW))))
          have c4 := Lib.hid (quietC (w := Y) (fun W hW => Add_any (a := s) (b := a * b) (w := W) (by unfold LIM; omega) (by unfold LIM; omega) (HL.out.ext (HeY.out.trans hW))))
          have k2 := cell_regrown hcb
          clear hab hbb n1 n2 n3 n4 hs ha hb eY hj1 hj2
          go_wp2_with fail
          refine wp_region_quiet_tail 10 (by kernel_rfl) (by kernel_rfl) ?_
          simp only [List.take_succ_cons, List.take_zero, List.drop_succ_cons, List.drop_zero]
          repeat (quiet_step (first | exact c1.out _ _ | exact c2.out _ _ | exact c3.out _ _ | exact c4.out _ _))
          refine wpQuiet_nil ?_
          intro _ hw'
          obtain ⟨⟨dq, osq⟩, hw''⟩ := hw'
          subst hw''
          have hE5 := hE2.trans (ext_regrown Y dq osq)
          clear c1 c2 c3 c4 k2
          generalize grow (redrawn Y dq) osq = w5 at *
          go_wp2_with fail
          go_roundw
          case rel => exact ⟨j + 1, by omega, by go_num, by rw [Hts.out], hE5⟩
          case measure => simp [intOf] <;> omega
        · obtain rfl : j = m := by omega
          have Hte := Lib.hid (show tmpT x r j = tmpE x r by rw [Hm.out]; rfl)
          rw [Hte.out]
          have HVY := Lib.hid (hV.out.ext hE2)
          have hYs := (hE.trans hE2).size
          have hEY := hE.trans hE2
          obtain ⟨z, hz⟩ : ∃ z, z = tmpE x r := ⟨_, rfl⟩
          rw [← hz] at Htk ⊢
          clear hV hz
          go_wp2_with (at_builtin; refine app_ints rfl _ _ rfl rfl (HVY.out.ext ((Ext.refl _).alloc _)) rfl (b := Y.heap.size) (z := z) (by go_simp) (by rw [Hil.out]; omega) (by simp; omega) ?_; intro gg cap2 w8 hO8 hB8 hG8; rw [Hil.out, ← Htk.out] at hO8; rw [Hil.out])
          have hE8 : Ext V w8 := Below.trans (hEY.alloc (.cells #[I z] 80)) hB8
          have HO8 := Lib.hid hO8
          clear hG8 hB8 hO8
          go_wp2_with fail
          go_roundw
          case rel => exact ⟨i + 1, by omega, by go_num, HO8, hE8⟩
          case measure => simp [intOf] <;> omega
    · obtain rfl : i = M.length := by omega
      have HF := Lib.hid (show IntsV V.heap.size X u5 (tmpL M x) by have := hV.out; rw [List.take_of_length_le (by simp)] at this; exact this)
      go_wp2_with fail
      go_ret
      exact ⟨_, rfl, HF.out.mono hsz, hX.trans hE⟩
end Go.Proofs.YtkjnjmihfonilaaGreatDoor
